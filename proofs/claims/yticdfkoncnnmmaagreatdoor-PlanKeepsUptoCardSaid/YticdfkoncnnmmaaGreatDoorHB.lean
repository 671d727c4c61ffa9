import Derived.Test.YticdfkoncnnmmaaGreatDoorH9
import Derived.Test.YticdfkoncnnmmaaGreatDoorGO
import Derived.Test.YticdfkoncnnmmaaGreatDoorH4
import Derived.Test.YticdfkoncnnmmaaGreatDoorH7
set_option linter.unusedSimpArgs false
set_option linter.unusedVariables false
set_option maxRecDepth 100000
namespace Go.Proofs.YticdfkoncnnmmaaGreatDoor
open Go.X Go.X.Diff Go.MapKept
theorem zYC {α β:Type}{p:β->Bool}{g:α->β}:∀ {l:List α} {k:Nat},zTh p (l.map g) k=zTh (λx=>p (g x)) l k
 | [],_=>rfl
 | x::l,k=>by rw[zBa,zTh,zTh,zYC (l:=l)]
theorem zYD {α:Type}{p:α->Bool}{x:α}:∀ {l:List α} {i:Nat},l[i]? = some x->p x=true->(∀ y∈l.take i,p y=false)->l.find? p=some x
 | [],_,h,_,_=>by simp at h
 | a::l,0,h,hp,_=>by simp at h;subst h;simp[hp]
 | a::l,i+1,h,hp,hn=>by
  rw[List.find?_cons,hn a (by simp)]
  exact zYD (l:=l) (i:=i) (by simpa using h) hp λy hy=>hn y (by rw[zB0];simp[hy])
theorem zSd {α:Type}{p:α->Bool}{l:List α}:(zTh p l 0 = -1/\l.find? p=none)\/∃ (i:Nat) (x:α),zTh p l 0=(i:Int)/\l[i]? = some x/\l.find? p=some x:=by
 rcases zWd (p:=p) (l:=l) (k:=0) with ⟨h1,h2⟩|⟨i,x,h1,h2,h3,h4⟩
 ·exact .inl ⟨h1,zCV.2 λx hx=>by simp[h2 x hx]⟩
 ·exact .inr ⟨i,x,by rw[h1,zAh],h2,zYD h2 h3 h4⟩
def zJM (nm:List UInt8)(v:Ver)(y:Pk):Bool:=decide (y.1.name=nm)&&decide (y.1.ver=v)
def zXn (x:Pk):Bool:=zIM x.1&&zFM x.1.files x.2
def zZz (l:List Pk)(x:Pk):Int:=if zXn x=false then 10 else match l.find? (zJM x.1.name x.1.ver) with
 | some y=>if zRr y.1 x.1 then 0 else 44
 | none=>if l.length=256 then 12 else 0
def zRZ (l:List Pk)(x:Pk):List Pk:=if zXn x=false then l else match l.find? (zJM x.1.name x.1.ver) with
 | some _=>l
 | none=>if l.length=256 then l else l++[x]
def zOV (R:zAY)(p:Nat)(l:List Pk)(h:zAw):Prop:=∃ (F P:zAY) (u:Value) (pv:List PW),pv.map zLy=l/\At h p [u]/\BufE 9 F h u (pv.map pvC)/\(∀ x∈pv,PkV P h x)/\(∀ b,F b->R b/\b≠p/\¬ P b)/\(∀ b,P b->R b/\b≠p)/\R p/\∀ b,R b->b<h.size
theorem zOV.keep {R S:zAY}{p:Nat}{l:List Pk}{h h':zAw}(q:zOV R p l h)(k:Keep S h h')(hs:∀ b,R b->¬ S b):zOV R p l h':=by
 obtain⟨F,P,u,pv,q1,q2,q3,q4,q5,q6,q7,q8⟩:=q
 exact⟨F,P,u,pv,q1,q2.keep k (hs _ q7),q3.keep k λb hb=>hs b (q5 b hb).1,λx hx=>(q4 x hx).keep k λb hb=>hs b (q6 b hb).1,q5,q6,q7,λb hb=>zAW (q8 b hb) k.1⟩
theorem zWg {H:zAw}:zAA prg zKh [] H λu H'=>u=Ptr H.size 0/\zOV (· = H.size) H.size [] H'/\Keep zAK H H':=by
 apply zOK
 unfold zOJ
 have e:zCP prg zPL []=some (.agg #[.slice none 0 0]):=by kernel_rfl
 rw[e,zAa]
 simp only[zB7,zBd]
 exact⟨by trivial,⟨λ_=>False,λ_=>False,.slice none 0 0,[],rfl,At.push,BufE.nil,λx h=>(by cases h),λb h=>h.elim,λb h=>h.elim,rfl,λb hb=>by subst hb;simp⟩,Keep.push⟩
theorem zQO {R:zAY}{p:Nat}{l:List Pk}{H:zAw}(q:zOV R p l H):zAA prg zHg [Ptr p 0] H λu H'=>u = .int .i64 (l.length:Nat)/\H=H':=by
 apply zOj
 unfold zN5
 obtain⟨F,P,u,pv,q1,q2,q3,_⟩:=q
 have nck1:∀ b,nck (Ptr b 0)=some (Ptr b 0):=λ_=>rfl
 have hl:=q3.sl.len
 rw[zAf]at hl
 simp only[nck1,zBk,zAh,zAa]
 rw[q2.ld (i:=0) rfl,zAa,hl,zAa]
 exact⟨by rw[<- q1,zAf],by trivial⟩
theorem zAe8 {h:zAw}{q:Nat}{x:PW}(a:At h q (pvC x))(w:x.1.1.wf):ldN 4 h (Ptr q 1)=some (.agg (zEt x.1.1.ver).toArray):=by
 have e:pvC x=[str x.1.1.name]++zEt x.1.1.ver++[x.1.2.1,x.1.2.2.1,x.1.2.2.2,x.2.1]:=by simp[pvC,mvC,zGU]
 rw[e]at a
 obtain⟨T,a⟩:=a
 exact ldN_mid a rfl (zDE w.ver).symm
theorem zAe9 {h:zAw}{b o:Nat}{x:PW}(a:Pt h b o (pvC x))(w:x.1.1.wf):ldN 8 h (Ptr b o)=some (.agg (mvC x.1).toArray) :=
 (Pt.mid (A:=[]) (B:=mvC x.1) (C:=[x.2.1]) (o:=o) (o':=o) (by simpa [pvC] using a) rfl).agg (zBI w)
theorem zYE {R:zAY}{p:Nat}{l:List Pk}{H:zAw}{nm:List UInt8}{v:Ver}(q:zOV R p l H)(hv:v.wf)(hl:l.length<=1000):zAA prg zKi [Ptr p 0,str nm,.agg (zEt v).toArray] H λu H'=>u = .int .i64 (zTh (zJM nm v) l 0)/\Keep zAK H H':=by
 apply zOM
 unfold zOL
 have ec:Value.cells (str nm)=[str nm].toArray:=rfl
 have nck1:∀ b,nck (Ptr b 0)=some (Ptr b 0):=λ_=>rfl
 simp only[ec,zB7,zBd,nck1,zBk,zAh,zAa]
 generalize hH1:H.push (.cells [str nm].toArray zBW (0,0))=H1
 have k1:Keep zAK H H1:=by rw[<- hH1];exact Keep.push
 have a1:At H1 H.size [str nm]:=by rw[<- hH1];exact At.push
 generalize hH2:H1.push (.cells (zEt v).toArray zAQ (0,0))=H2
 have k2:Keep zAK H1 H2:=by rw[<- hH2];exact Keep.push
 have a2:At H2 H1.size (zEt v):=by rw[<- hH2];exact At.push
 have k02:=k1.trans k2
 obtain⟨F,P,u,pv,q1,q2,q3,q4,_⟩:=q.keep k02 λ_ _=>id
 have hpl:pv.length<=1000:=by rw[<- q1,zAf]at hl;exact hl
 rw[q2.ld (i:=0) rfl,zAa]
 refine zAM (zE0 (zAbX (enc:=pvC) (del:=λx:PW=>zJM nm v (zLy x)) (G:=λh=>At h H.size [str nm]/\At h H1.size (zEt v)) q3.sl (λx h hx hG=>?_) (λh k=>⟨(a1.keep k2 id).keep k id,a2.keep k id⟩) (by omega))) λu h ⟨e,k⟩=>⟨by rw[e,<- q1,zYC],k02.trans k⟩
 refine .inl ⟨zIk,#[],#[Ptr H.size 0,Ptr H1.size 0],rfl,by kernel_rfl,?_⟩
 show zAA prg zIk [.agg (pvC x).toArray,Ptr H.size 0,Ptr H1.size 0] h _
 apply zNM
 unfold zNn
 simp only[zB7,zBd,zBk,zAh,zAu,zAa]
 have w:=(q4 x hx).m.wf
 generalize hh2:h.push (.cells (pvC x).toArray zA4 (0,0))=h2
 have kp:Keep zAK h h2:=by rw[<- hh2];exact Keep.push
 have a3:At h2 h.size (pvC x):=by rw[<- hh2];exact At.push
 have d0:ld1 h2 (Ptr h.size 0)=some (str x.1.1.name):=a3.ld rfl
 rw[d0,zAa,(hG.1.keep kp id).ld (i:=0) rfl,zAa,zDx,zAa]
 have es:zJM nm v (zLy x)=(decide (x.1.1.name=nm)&&decide (x.1.1.ver=v)):=rfl
 cases h1:decide (x.1.1.name=nm)
 ·refine zJw (by decide) ?_
  show Mpu (zBy (.bool false) undef (.bool false)) _
  rw[zAt,if_neg (by decide),zAa]
  exact⟨by rw[es,h1];rfl,kp⟩
 ·refine zDu rfl ?_
  rw[zAe8 a3 w,zAa,(hG.2.keep kp id).ldN (zDE hv),zAa,zAdp w.ver hv,zAa]
  show Mpu (zBy (.bool true) (.bool (decide (x.1.1.ver=v))) (.bool false)) _
  rw[zAt,if_pos rfl,zAa]
  exact⟨by rw[es,h1];simp,kp⟩
theorem zQP:zPW.1.1.wf:=zMh
theorem zAgM:∀ c∈pvC zPW,c.oneCell'=true:=by decide +kernel
theorem zAiE:zCP prg zA4 []=some (.agg (pvC zPW).toArray):=by kernel_rfl
theorem zAiF {R:zAY}{p:Nat}{l:List Pk}{H:zAw}{nm:List UInt8}{v:Ver}(q:zOV R p l H)(hv:v.wf)(hl:l.length<=1000):zAA prg zKJ [Ptr p 0,str nm,.agg (zEt v).toArray] H λu H' =>
  ((l.find? (zJM nm v)=none/\u = .tuple #[.agg (pvC zPW).toArray,.bool false])\/∃ x':PW,l.find? (zJM nm v)=some (zLy x')/\u = .tuple #[.agg (pvC x').toArray,.bool true]/\PkV (λb=>H.size<=b/\b<H'.size) H' x')/\Keep zAK H H':=by
 apply zNJ
 unfold zNj
 have nck1:∀ b,nck (Ptr b 0)=some (Ptr b 0):=λ_=>rfl
 simp only[zB7,zZy,zAiE,zBd,nck1,zBk,zAh,zAa]
 generalize hH1:H.push (.cells (zEt v).toArray zAQ (0,0))=H1
 have k1:Keep zAK H H1:=by rw[<- hH1];exact Keep.push
 have a1:At H1 H.size (zEt v):=by rw[<- hH1];exact At.push
 generalize hH2:H1.push (.cells (pvC zPW).toArray zA4 (0,0))=H2
 have k2:Keep zAK H1 H2:=by rw[<- hH2];exact Keep.push
 have a2:At H2 H1.size (pvC zPW):=by rw[<- hH2];exact At.push
 have g1:=k1.1
 have g2:=k2.1
 have k02:=k1.trans k2
 have q2:=q.keep k02 λ_ _=>id
 rw[(a1.keep k2 id).ldN (zDE hv),zAa]
 refine zAM (zYE q2 hv hl) ?_
 rintro _ h3 ⟨rfl,k3⟩
 have k03:=k02.trans k3
 have g3:=k3.1
 have a3:=a2.keep k3 id
 rw[ltI,zAa,zAl]
 rcases zSd (p:=zJM nm v) (l:=l) with ⟨e1,e2⟩|⟨i,y,e1,e2,e3⟩
 ·rw[e1,if_pos (by decide)]
  obtain⟨h4,st4,a4,k4⟩:=a3.st (n:=9) (ds:=pvC zPW) (zDN zQP) (zDN zQP) zAgM
  rw[st4,zA0,a4.ldN (zDN zQP),zAa]
  exact⟨.inl ⟨e2,rfl⟩,k03.fresh k4 λb hb=>by omega⟩
 ·rw[e1,if_neg (by simp)]
  obtain⟨F,P,u,pv,q1,q2,q3,q4,_⟩:=q2.keep k3 λ_ _=>id
  rw[<- q1,zAq]at e2
  obtain⟨x,hx,rfl⟩:=zBu.1 e2
  have hxm:=q4 x (zAC hx)
  obtain⟨b,o,hix,hpt,_⟩:=q3.sl.at (i:=i) (x:=pvC x) (by rw[zAq,hx];rfl)
  rw[q2.ld (i:=0) rfl,zAa,hix .i64,zAa,hpt.agg (zDN hxm.m.wf),zAa]
  refine zAM (zYA hxm) ?_
  rintro _ h6 ⟨⟨x',rfl,hpk,hx'⟩,k6⟩
  have g6:=k6.1
  obtain⟨h7,st7,a7,k7⟩:=(a3.keep k6 id).st (n:=9) (ds:=pvC x') (zDN zQP) (zDN hx'.m.wf) hx'.one
  have g7:=k7.1
  have g17:=a2.lt
  rw[st7,zA0,a7.ldN (zDN hx'.m.wf),zAa]
  exact⟨.inr ⟨x',by rw[e3,hpk],rfl,(hx'.keep k7 λb hb=>by omega).mono λb hb=>by omega⟩,(k03.trans k6).fresh k7 λb hb=>by omega⟩
structure zAdW (P:zAY)(H:zAw)(x:PW):Prop where
 m:zL6 P H x.1.1 x.1.2.1 x.1.2.2.1 x.1.2.2.2
 f:BSS P P H x.2.1 x.2.2
 sd:x.1.1.deps.length<=1000
 sc:x.1.1.conf.length<=1000
 sf:x.1.1.files.length<=1000
theorem zAdW.keep {P S:zAY}{H H':zAw}{x:PW}(h:zAdW P H x)(k:Keep S H H')(hs:∀ b,P b->¬ S b):zAdW P H' x:=⟨h.m.keep k hs,h.f.keep k hs hs,h.sd,h.sc,h.sf⟩
theorem zAdW.one {P:zAY}{H:zAw}{x:PW}(h:zAdW P H x):∀ c∈pvC x,c.oneCell'=true:=λc hc=>by
 rcases zAr.1 hc with hc|hc
 ·exact zGV (x:=x.1) h.m c hc
 ·rw[zAI.1 hc];exact h.f.sl.oneC
theorem zAb3 {m:Man}(h:zIM m=true):∀ f∈m.files,f.size<=1048576:=by
 unfold zIM zOS at h
 simp only[zAm,decide_eq_true_eq]at h
 obtain⟨_,_,h3⟩:=h
 intro f hf
 obtain⟨i,hi,rfl⟩:=zBA hf
 have:=zAv.1 h3 i (zBS.2 hi)
 unfold zJp at this
 rw[zS2 (zAj hi)]at this
 simp only[zAm,zBf,decide_eq_false_iff_not]at this
 have:=this.1.2
 omega
theorem zT9:∀ {fs:List zHA} {bs:List (List UInt8)},zFM fs bs=true->(∀ f∈fs,f.size<=1048576)->bs.length=fs.length/\∀ b∈bs,b.length<=1048576
 | [],[],_,_=>⟨rfl,λb h=>by cases h⟩
 | [],_::_,h,_=>by cases h
 | _::_,[],h,_=>by cases h
 | f::fs,b::bs,h,hs=>by
  rw[zFM,zAm]at h
  obtain⟨h1,h2⟩:=zT9 h.2 λf hf=>hs f (by simp[hf])
  have h3:=h.1
  unfold zVS at h3
  simp only[zAm,decide_eq_true_eq]at h3
  have h4:=hs f (by simp)
  refine⟨by simp[h1],λc hc=>?_⟩
  rcases zAp.1 hc with rfl|hc
  ·omega
  ·exact h2 c hc
theorem zXo {x:PW}(h:(pvC x).length=9):zID prg zA4 1 [(0,.agg (pvC x).toArray)]=some (pvC x).toArray :=
 zW1 (by kernel_rfl:prg.cellsOf zA4=9) (by omega) (by omega) zZy (zDN zQP) (by simp[h])
set_option maxHeartbeats 1000000 in
theorem zAgN {R P:zAY}{p:Nat}{l:List Pk}{H:zAw}{x:PW}(q:zOV R p l H)(hx:zAdW P H x)(hP:∀ b,P b->b<H.size)(hl:l.length<=256)(hO:zQE H)(hS:zTl H) :
  zAA prg zHf [Ptr p 0,.agg (pvC x).toArray] H λu H'=>u = .int .i64 (zZz l (zLy x))/\(∃ R',zOV R' p (zRZ l (zLy x)) H'/\∀ b,R' b->R b\/(H.size<=b/\b<H'.size))/\Keep R H H':=by
 apply zOi
 unfold zN4
 have nck1:∀ b,nck (Ptr b 0)=some (Ptr b 0):=λ_=>rfl
 simp only[zB7,zJL,zBd,nck1,zBk,zAh,zAu,zAa]
 generalize hH1:H.push (.cells (pvC x).toArray zA4 (0,0))=H1
 have k1:Keep zAK H H1:=by rw[<- hH1];exact Keep.push
 have a1:At H1 H.size (pvC x):=by rw[<- hH1];exact At.push
 have s1:H1.size=H.size+1:=by rw[<- hH1];simp
 have w:=hx.m.wf
 rw[a1.ldPre (A:=mvC x.1) (zBI w),zAa]
 generalize hH2:H1.push (.cells (zGU ⟨[],zED,[],[],[]⟩ zCp zCp zCp).toArray zAg (0,0))=H2
 have k2:Keep zAK H1 H2:=by rw[<- hH2];exact Keep.push
 have a2:At H2 H1.size (zGU ⟨[],zED,[],[],[]⟩ zCp zCp zCp):=by rw[<- hH2];exact At.push
 have hone:∀ c∈mvC x.1,c.oneCell'=true:=zGV (x:=x.1) hx.m
 obtain⟨h3,st3,a3,k3⟩:=a2.st (n:=8) (ds:=mvC x.1) (zBI zMh) (zBI w) hone
 have g2:=k2.1
 have k03:Keep zAK H h3:=(k1.trans k2).fresh k3 λb hb=>by omega
 have a13:=(a1.keep k2 id).keep k3 (by omega)
 rw[st3,zA0,a3.ldN (zBI w),zAa]
 have mono:∀ {h:zAw},Keep zAK H h->Keep R H h:=λk=>k.mono λ_ _ h=>h.elim
 have same:∀ {h:zAw} {e:Int},Keep zAK H h->zZz l (zLy x)=e->zRZ l (zLy x)=l->(Value.int .i64 e = .int .i64 (zZz l (zLy x))/\(∃ R',zOV R' p (zRZ l (zLy x)) h/\∀ b,R' b->R b\/(H.size<=b/\b<h.size))/\Keep R H h):=λk e1 e2=>⟨by rw[e1],⟨R,by rw[e2];exact q.keep k λ_ _=>id,λb hb => .inl hb⟩,mono k⟩
 have hsd:=hx.sd
 have hsc:=hx.sc
 refine zAM (zUS (vd:=x.1.2.1) (vc:=x.1.2.2.1) (vf:=x.1.2.2.2) (hx.m.keep k03 λ_ _=>id) (by omega) (by omega) (hO.keep k03 λ_ h=>h.elim)) ?_
 rintro _ h4 ⟨rfl,k4⟩
 have k04:=k03.trans k4
 have a34:=a3.keep k4 id
 have a14:=a13.keep k4 id
 rw[zA5,zAa]
 have hpo:zXn (zLy x)=(zIM x.1.1&&zFM x.1.1.files (x.2.2.map (·.2))):=rfl
 have bad:zXn (zLy x)=false->zZz l (zLy x)=10/\zRZ l (zLy x)=l:=λe=>⟨by unfold zZz;rw[if_pos e],by unfold zRZ;rw[if_pos e]⟩
 cases hok:zIM x.1.1
 ·refine zJw (by decide) ?_
  show Mpu (zBy (.bool true) (.bool true) undef) _
  rw[zAt,if_pos rfl,zAa,zAl,if_pos rfl]
  have:=bad (by rw[hpo,hok];rfl)
  exact same k04 this.1 this.2
 refine zDu rfl ?_
 have hsz:=zAb3 hok
 obtain⟨f1,_,_⟩:=zNy hok
 have hx4:=hx.keep k04 λ_ _=>id
 have g04:=k04.1
 rw[a34.ldN (zBI w),zAa,a14.ld (i:=8) (zS8 w),zAa]
 refine zAM (zAgj (vd:=x.1.2.1) (vc:=x.1.2.2.1) (vf:=x.1.2.2.2) hx4.m hx4.f (λb hb=>by have:=hP b hb;omega) (λe=>by omega) (λi y f h1 h2 h3=>by have:=hsz f (zAC h2);omega) (hS.keep k04 λ_ h=>h.elim)) ?_
 rintro _ h6 ⟨rfl,k6⟩
 have k06:=k04.trans k6
 have a36:=a34.keep k6 id
 have a16:=a14.keep k6 id
 rw[zA5,zAa]
 show Mpu (zBy (.bool false) (.bool true) (.bool (!zFM x.1.1.files (x.2.2.map (·.2))))) _
 rw[zAt,if_neg (by decide),zAa,zAl]
 cases hft:zFM x.1.1.files (x.2.2.map (·.2))
 ·rw[if_pos (by rfl)]
  have:=bad (by rw[hpo,hok,hft];rfl)
  exact same k06 this.1 this.2
 have hpk:zXn (zLy x)=true:=by rw[hpo,hok,hft];rfl
 obtain⟨z1,z2⟩:=zT9 hft hsz
 rw[zAf]at z1
 have hxk:PkV P h6 x:=⟨(hx.keep k06 λ_ _=>id).m,(hx.keep k06 λ_ _=>id).f,hx.sd,hx.sc,hx.sf,by omega,λy hy=>z2 y.2 (zAo.2 ⟨y,hy,rfl⟩)⟩
 have q6:=q.keep k06 λ_ _=>id
 rw[if_neg (by decide),zEc a36,zAa,zKd a36 w,zAa]
 refine zAM (zYE q6 w.ver (by omega)) ?_
 rintro _ h8 ⟨rfl,k8⟩
 have k08:=k06.trans k8
 have a38:=a36.keep k8 id
 have a18:=a16.keep k8 id
 have q8:=q6.keep k8 λ_ _=>id
 have hPE:zZz l (zLy x)=match l.find? (zJM x.1.1.name x.1.1.ver) with
   | some y=>if zRr y.1 x.1.1 then 0 else 44
   | none=>if l.length=256 then 12 else 0:=by unfold zZz;rw[if_neg (by rw[hpk];decide)];rfl
 have hPL:zRZ l (zLy x)=match l.find? (zJM x.1.1.name x.1.1.ver) with
   | some _=>l
   | none=>if l.length=256 then l else l++[zLy x]:=by unfold zRZ;rw[if_neg (by rw[hpk];decide)];rfl
 have q8':=q8
 obtain⟨F,P',u,pv,q1,q2,q3,q4,q5,q6',q7,q9⟩:=q8
 have hpl:pv.length=l.length:=by rw[<- q1,zAf]
 rw[geI,zAa,zAl]
 rcases zSd (p:=zJM x.1.1.name x.1.1.ver) (l:=l) with ⟨e1,e2⟩|⟨i,y,e1,e2,e3⟩
 rotate_left
 ·rw[e1,if_pos (by simp)]
  rw[e3]at hPE hPL
  have e2':=e2
  rw[<- q1,zAq]at e2
  obtain⟨z,hz,rfl⟩:=zBu.1 e2
  have hzm:=q4 z (zAC hz)
  obtain⟨b,o,hix,hpt,_⟩:=q3.sl.at (i:=i) (x:=pvC z) (by rw[zAq,hz];rfl)
  rw[q2.ld (i:=0) rfl,zAa,hix .i64,zAa,zBk,zAa,zAu,zAe9 hpt hzm.m.wf,zAa,a38.ldN (zBI w),zAa]
  have h1:=hzm.sd
  have h2:=hzm.sc
  have h3:=hzm.sf
  refine zAM (zRs (x:=z.1) (y:=x.1) hzm.m (hxk.m.keep k8 λ_ _=>id) (by omega) (by omega) (by omega)) ?_
  rintro _ h9 ⟨rfl,k9⟩
  rw[zA5,zAa,zAl]
  have hme:(zLy z).1=z.1.1:=rfl
  cases hq:zRr z.1.1 x.1.1
  ·rw[if_pos (by rfl)]
   exact same (k08.trans k9) (by rw[hPE];show(if zRr z.1.1 x.1.1=true then 0 else 44)=_;rw[hq];rfl) hPL
  ·rw[if_neg (by decide)]
   exact same (k08.trans k9) (by rw[hPE];show(if zRr z.1.1 x.1.1=true then 0 else 44)=_;rw[hq];rfl) hPL
 rw[e1,if_neg (by decide)]
 rw[e2]at hPE hPL
 have hlen:=q3.sl.len
 rw[zAf,hpl]at hlen
 have e256:zAB .no .eql (.int .i64 (l.length:Nat)) (.int .i64 256)=some (.bool (decide (l.length=256))):=zAhi (m:=256)
 rw[q2.ld (i:=0) rfl,zAa,hlen,zAa,e256,zAa,zAl]
 by_cases h256:l.length=256
 ·rw[if_pos (by simpa using h256)]
  exact same k08 (by rw[hPE];exact if_pos h256) (by rw[hPL];exact if_pos h256)
 rw[if_neg (by simpa using h256),zAa,a18.ldN (zDN w),zAa]
 refine zAM (zYA (hxk.keep k8 λ_ _=>id)) ?_
 rintro _ h10 ⟨⟨x',rfl,hpk',hx'⟩,k10⟩
 have g10:=k10.1
 rw[(q2.keep k10 id).ld (i:=0) rfl,zBt,zA7,zXo (zDN hx'.m.wf),zCD]
 generalize hH11:h10.push (.cells (pvC x').toArray zA4 (0,0))=h11
 have k11:Keep zAK h10 h11:=by rw[<- hH11];exact Keep.push
 have g11:h11.size=h10.size+1:=by rw[<- hH11];simp
 rw[((q2.keep k10 id).keep k11 id).ld (i:=0) rfl,zBt,zA7]
 have hx11:SlE 9 (· = h10.size) h11 (.slice (some ⟨h10.size,0,none⟩) 1 1) [pvC x']:=⟨⟨_,1,rfl,zAi _,.inr ⟨h10.size,0,rfl,rfl,by
  show Pt h11 h10.size 0 [pvC x'].flatten
  rw[<- hH11,show [pvC x'].flatten=pvC x' by simp];exact Pt.of zCh⟩⟩,λy hy=>by rw[zAI.1 hy];exact zDN hx'.m.wf,λy hy=>by rw[zAI.1 hy];exact hx'.one⟩
 have k811:=k10.trans k11
 have k011:=k08.trans k811
 have g811:=k811.1
 have g08:=k08.1
 refine((q3.keep k811 λ_ _=>id).mono (G:=λb=>F b\/h11.size<=b) λb hb => .inl hb).app hx11 (by omega) (by rw[zAf,zBb];omega) (.inr (zAi _)) λt h12 b12 k12=>?_
 have g12:=k12.1
 have hpn:¬ (F p\/h11.size<=p):=λhh=>hh.elim (λh=>(q5 p h).2.1 rfl) λh=>by have:=q9 p q7;omega
 obtain⟨h13,st13,a13',k13⟩:=(((q2.keep k10 id).keep k11 id).keep k12 hpn).st1 (i:=0) (v:=t) (by simp) b12.sl.oneC
 rw[st13,zA0]
 have g13:=k13.1
 have hP13:∀ {b},(P' b\/(h8.size<=b/\b<h10.size))->¬ (F b\/h11.size<=b)/\b≠p:=λ{b} hb=>by
  rcases hb with hb|hb
  ·have h1:=q6' b hb
   have h2:=q9 b h1.1
   exact⟨λhh=>hh.elim (λh=>(q5 b h).2.2 hb) λh=>by omega,h1.2⟩
  ·exact⟨λhh=>hh.elim (λh=>by have:=q9 b (q5 b h).1;omega) λh=>by omega,λe=>by have:=q9 p q7;omega⟩
 refine⟨by rw[hPE];exact congrArg _ (if_neg h256).symm,⟨λb=>R b\/(h8.size<=b/\b<h13.size),⟨λb=>(F b\/h11.size<=b)/\b<h12.size,λb=>P' b\/(h8.size<=b/\b<h10.size),t,pv++[x'],?_,a13',?_,?_,?_,?_,.inl q7,?_⟩,λb hb=>hb.imp id λh=>by omega⟩,?_⟩
 ·rw[hPL,zAN,q1,if_neg h256]
  simp[hpk']
 ·have e:(pv++[x']).map pvC=pv.map pvC++[pvC x']:=by simp
  rw[e]
  exact(BufE.re b12 λb hb hF=>⟨hF,hb⟩).keep k13 λb hb e=>hpn (e ▸ hb.1)
 ·intro z hz
  rcases zAr.1 hz with hz|hz
  ·exact((((q4 z hz).keep k811 λ_ _=>id).mono (Q:=λb=>P' b\/(h8.size<=b/\b<h10.size)) λb hb => .inl hb).keep k12 λb hb=>(hP13 hb).1).keep k13 λb hb=>(hP13 hb).2
  ·rw[zAI.1 hz]
   exact(((hx'.keep k11 λ_ _=>id).mono (Q:=λb=>P' b\/(h8.size<=b/\b<h10.size)) λb hb => .inr hb).keep k12 λb hb=>(hP13 hb).1).keep k13 λb hb=>(hP13 hb).2
 ·intro b hb
  refine⟨hb.1.elim (λh => .inl (q5 b h).1) λh => .inr (by have:=hb.2;omega),λe=>hpn (e ▸ hb.1),λhh=>(hP13 hh).1 hb.1⟩
 ·intro b hb
  exact⟨hb.elim (λh => .inl (q6' b h).1) λh => .inr (by omega),(hP13 hb).2⟩
 ·intro b hb
  rcases hb with hb|hb
  ·have:=q9 b hb;omega
  ·exact hb.2
 ·refine((mono k011).fresh' k12 λb hb=>?_).trans (k13.mono λb _ e=>by rw[e];exact q7)
  rcases hb with h|h
  ·exact .inl (q5 b h).1
  ·exact .inr (by omega)
def zXp (inst:List Man)(m:Man):Bool:=match inst.find? (λo=>decide (o.name=m.name)) with
 | none=>true
 | some o=>!decide (o.ver=m.ver)
def zEd (inst:List Man)(l:List Pk):List Man:=inst++(l.map (·.1)).filter (zXp inst)
theorem zS9 {α β:Type}{p:β->Bool}{g:α->β}:∀ {l:List α},(l.map g).find? p=(l.find? λx=>p (g x)).map g
 | []=>rfl
 | x::l=>by
  rw[zBa,List.find?_cons,List.find?_cons,zS9 (l:=l)]
  cases p (g x)<;>rfl
theorem zIC {α:Type}{l:List α}{i:Nat}{x:α}{p:α->Bool}(h:l[i]? = some x):(l.take (i+1)).filter p=(l.take i).filter p++(if p x then [x] else []):=by
 rw[zAJ,h,List.filter_append]
 cases hp:p x<;>simp[hp]
theorem zRt {x:MV}(h:(mvC x).length=8):zID prg zAg 1 [(0,.agg (mvC x).toArray)]=some (mvC x).toArray :=
 zW1 (by kernel_rfl:prg.cellsOf zAg=8) (by omega) (by omega) zJL (zBI zMh) (by simp[h])
theorem zNW {n:Nat}{T:TypeId}{h:zAw}{x:List Value}(hx:x.length=n)(h1:∀ c∈x,c.oneCell'=true):SlE n (· = h.size) (h.push (.cells x.toArray T (0,0))) (.slice (some ⟨h.size,0,none⟩) 1 1) [x] :=
 ⟨⟨_,1,rfl,zAi _,.inr ⟨h.size,0,rfl,rfl,by
  rw[show [x].flatten=x by simp];exact Pt.of zCh⟩⟩,λy hy=>by rw[zAI.1 hy];exact hx,λy hy=>by rw[zAI.1 hy];exact h1⟩
set_option maxHeartbeats 1000000 in
theorem zAb4 {P R:zAY}{p:Nat}{l:List Pk}{H:zAw}{v:Value}{mv:List MV}(hp:zNz P H v mv)(q:zOV R p l H)(hl:mv.length<=1000)(hll:l.length<=1000) :
  zAA prg zMn [v,Ptr p 0] H λu H'=>(∃ mv',zCq mv'=zEd (zCq mv) l/\zNz (λb=>P b\/R b\/(H.size<=b/\b<H'.size)) H' u mv')/\Keep zAK H H':=by
 apply zPQ
 unfold zQu
 have nck1:∀ b,nck (Ptr b 0)=some (Ptr b 0):=λ_=>rfl
 refine zAM (zT8 hp.h (by rw[zAf];omega)) ?_
 rintro t10 h1 ⟨b1,k1⟩
 have g1:=k1.1
 obtain⟨F,P',u,pv,q1,q2,q3,q4,q5,q6,q7,q9⟩:=q
 have hpl:pv.length=l.length:=by rw[<- q1,zAf]
 have hR:∀ b,P' b->R b:=λb hb=>(q6 b hb).1
 have hlen:=q3.sl.len
 rw[zAf,hpl]at hlen
 let I:Nat->zAn:=λi w h=>∃ ys:List MV,BufE 8 (λb=>H.size<=b/\b<h.size) h w ((mv++ys).map mvC)/\ys.length<=i/\(∀ y∈ys,(∃ x∈pv,x.1=y))/\zCq ys=((l.take i).map (·.1)).filter (zXp (zCq mv))/\Keep zAK H h
 refine zNd (λw _ h=>I l.length w h) (λk2 hk2=>?_) ?_
 rotate_left
 ·rintro w _ h ⟨ys,by',hyl,hy,he,kh⟩
  rw[zAs (zAi _)]at he
  refine⟨⟨mv++ys,by unfold zEd;rw[<- he];simp[zCq],by'.sl.mono λb hb => .inr (.inr hb),λx hx=>?_,λx hx=>?_⟩,kh⟩
  ·rcases zAr.1 hx with hx|hx
   ·exact((hp.m x hx).keep kh λ_ _=>id).mono λb hb => .inl hb
   ·obtain⟨z,hz,rfl⟩:=hy x hx
    exact((q4 z hz).m.keep kh λ_ _=>id).mono λb hb => .inr (.inl (hR b hb))
  ·rcases zAr.1 hx with hx|hx
   ·exact hp.sm x hx
   ·obtain⟨z,hz,rfl⟩:=hy x hx
    exact⟨(q4 z hz).sd,(q4 z hz).sc⟩
 simp only[nck1,zBk,zAh,zAu,zAa]
 rw[(q2.keep k1 id).ld (i:=0) rfl,zAa,hlen,zAa]
 refine zVE (λw z h=>∃ i:Nat,i<=l.length/\z = .int .i64 (i:Nat)/\I i w h) (λ_ z _=>match z with | .int _ t=>l.length-t.toNat|_=>0) ⟨0,zAz _,rfl,[],by rw[zAS];exact b1,zAi _,λy hy=>(by cases hy),rfl,k1⟩ ?_
 rintro t5 _ h5 ⟨i,hi,rfl,ys,b5,hyl,hy,he,k5⟩ k4 hk4
 have g5:=k5.1
 rw[zOn,zAa,zAl]
 by_cases hlt:i<l.length
 rotate_left
 ·rw[if_neg (by simpa using hlt)]
  obtain rfl:i=l.length:=by omega
  exact hk2 _ _ _ ⟨ys,b5,hyl,hy,he,k5⟩
 rw[if_pos (by simpa using hlt)]
 have hg:pv[i]? = some (pv[i]'(by omega)):=zAj (by omega)
 have hm:=zAE (show i<pv.length by omega)
 generalize pv[i]'(by omega)=x at *
 have hgl:l[i]? = some (zLy x):=by rw[<- q1,zAq,hg];rfl
 have hgm:(l.map (·.1))[i]? = some x.1.1:=by rw[zAq,hgl];rfl
 have hx5:=(q4 x hm).keep k5 λ_ _=>id
 have w:=hx5.m.wf
 obtain⟨b,o,hix,hpt,_⟩:=(q3.keep k5 λ_ _=>id).sl.at (i:=i) (x:=pvC x) (by rw[zAq,hg];rfl)
 refine zNd (λw _ h=>I (i+1) w h) (λk6 hk6=>?_) ?_
 rotate_left
 ·rintro w' _ h7 hI
  rw[zBU (by omega),zAa]
  exact hk4 _ _ _ ⟨i+1,by omega,rfl,hI⟩ (by show l.length-(i+1)<l.length-i;omega)
 rw[hix .i64,zAa,hpt.agg (zDN w),zAa]
 simp only[zZy,zBd,zBk,zAh,zAu,zAa]
 generalize hH8:h5.push (.cells (pvC zPW).toArray zA4 (0,0))=h8
 have k8:Keep zAK h5 h8:=by rw[<- hH8];exact Keep.push
 have a8:At h8 h5.size (pvC zPW):=by rw[<- hH8];exact At.push
 obtain⟨h9,st9,a9,k9⟩:=a8.st (n:=9) (ds:=pvC x) (zDN zQP) (zDN w) hx5.one
 have k59:Keep zAK h5 h9:=k8.fresh k9 λb hb=>by omega
 have d0:ld1 h9 (Ptr h5.size 0)=some (str x.1.1.name):=a9.ld rfl
 rw[st9,zA0,d0,zAa]
 refine zAM (zAb1 (hp.keep (k5.trans k59) λ_ _=>id) (by omega)) ?_
 rintro _ h10 ⟨rfl,k10⟩
 have k510:=k59.trans k10
 have k010:=k5.trans k510
 have a10:=a9.keep k10 id
 have g510:=k510.1
 have hfm:(zCq mv).find? (λo=>decide (o.name=x.1.1.name))=(mv.find? λo:MV=>decide (o.1.name=x.1.1.name)).map (·.1):=zS9
 have no:zXp (zCq mv) x.1.1=false->∀ h',Keep zAK h10 h'->I (i+1) t5 h':=λhf h' k'=>⟨ys,(b5.keep (k510.trans k') λ_ _=>id).mono λb hb=>by have:=k'.1;omega,by omega,hy,by rw[zCs,zIC hgm,hf,<- zCs,<- he];simp,k010.trans k'⟩
 have yes:zXp (zCq mv) x.1.1=true->∀ h' w2,Keep zAK h10 h'->Mpu (ldN 8 h' (Ptr h5.size 0)) λt40=>zFv h' zAg 1 (zID prg zAg 1 [(0,t40)]) λt41 h13=>zKf zAg 8 128 h13 t5 t41 λt42 h14=>k6 t42 w2 h14:=λhf h' w2 k'=>by
  have a':=a10.keep k' id
  rw[a'.ldPre (A:=mvC x.1) (zBI w),zAa,zRt (zBI w),zCD]
  have hr:=zNW (T:=zAg) (h:=h') (n:=8) (zBI w:(mvC x.1).length=8) (zGV (x:=x.1) hx5.m)
  have kp:Keep zAK h' (h'.push (.cells (mvC x.1).toArray zAg (0,0))):=Keep.push
  have gp:=kp.1
  have g':=k'.1
  have k0p:=(k510.trans k').trans kp
  refine((b5.keep k0p λ_ _=>id).mono (G:=λb=>H.size<=b) λb hb=>hb.1).app hr (by omega) (by rw[zAf,zAy,zBb];omega) (by show H.size<=_;omega) λt h14 b14 k14=>?_
  refine hk6 _ _ _ ⟨ys++[x.1],?_,by rw[zAy,zBb];omega,λy hy'=>?_,?_,((k010.trans k').trans kp).fresh k14 λb hb=>hb⟩
  ·have e:(mv++(ys++[x.1])).map mvC=(mv++ys).map mvC++[mvC x.1]:=by simp
   rw[e]
   exact BufE.re b14 λb hb hF=>⟨hF,hb⟩
  ·rcases zAr.1 hy' with hy'|hy'
   ·exact hy y hy'
   ·rw[zAI.1 hy'];exact⟨x,hm,rfl⟩
  ·rw[zCs,zIC hgm,hf,<- zCs,<- he];simp[zCq]
 rw[ltI,zAa]
 rcases zSd (p:=λo:MV=>decide (o.1.name=x.1.1.name)) (l:=mv) with ⟨e1,e2⟩|⟨j,y,e1,e2,e3⟩
 ·have hout:zXp (zCq mv) x.1.1=true:=by unfold zXp;rw[hfm,e2];rfl
  rw[e1]
  refine zJw (by decide) ?_
  show Mpu (zBy (.bool true) (.bool true) undef) _
  rw[zAt,if_pos rfl,zAa,zAl,if_pos rfl]
  exact yes hout h10 _ Keep.refl
 ·have hout:zXp (zCq mv) x.1.1 = !decide (y.1.ver=x.1.1.ver):=by unfold zXp;rw[hfm,e3];rfl
  rw[e1,decide_eq_false (by omega)]
  refine zDu rfl ?_
  obtain⟨hmy,b',o',hix',hpt',_⟩:=(hp.keep k010 λ_ _=>id).at e2
  rw[hix' .i64,zAa,zBk,zAa,zVZ hpt' hmy.wf,zAa,zAe8 a10 w,zAa,zAjJ hmy.wf.ver w.ver,zAa]
  show Mpu (zBy (.bool false) (.bool true) (.bool (!decide (y.1.ver=x.1.1.ver)))) _
  rw[zAt,if_neg (by decide),zAa,zAl]
  cases hq:decide (y.1.ver=x.1.1.ver)
  ·rw[if_pos (by rfl)]
   exact yes (by rw[hout,hq];rfl) h10 _ Keep.refl
  ·rw[if_neg (by decide)]
   exact hk6 _ _ _ (no (by rw[hout,hq];rfl) h10 Keep.refl)
def zK3 (inst:List Man)(nm:List UInt8):List Dep:=(inst.filter λm=>!decide (m.name=nm)).map λm=>⟨m.name,⟨[61],m.ver⟩⟩
theorem zAb5 {op:List UInt8}{x:Ver}(hx:x.wf):zCP prg zBO [(0,str op),(1,.agg (zEt x).toArray)]=some (.agg (zEQ ⟨op,x⟩).toArray):=by
 obtain⟨a,b,c,e⟩:=Ver.cases3 hx
 obtain⟨p,pre⟩:=x
 simp only at e
 subst e
 rw[zJa zAeG];rfl
theorem zSe {d:Dep}(hd:d.wf):zID prg zAH 1 [(0,.agg (zE7 d).toArray)]=some (zE7 d).toArray :=
 zW1 (by kernel_rfl:prg.cellsOf zAH=6) (by omega) (by omega) zT5 (zEa zNT) (by simp[zEa hd])
theorem zAb6 {d:Dep}(hd:d.wf):zCP prg zAH [(0,str d.name),(1,.agg (zEQ d.want).toArray)]=some (.agg (zE7 d).toArray):=by
 obtain⟨a,b,c,e⟩:=Ver.cases3 hd.want.ver
 obtain⟨n,⟨op,⟨p,pre⟩⟩⟩:=d
 simp only at e
 subst e
 rw[zJa zAjS];rfl
theorem zYF {P:zAY}{H:zAw}{v:Value}{mv:List MV}{nm:List UInt8}(hp:zNz P H v mv)(hl:mv.length<=1000) :
  zAA prg zLk [v,str nm] H λu H'=>BufE 6 (λb=>H.size<=b/\b<H'.size) H' u ((zK3 (zCq mv) nm).map zE7)/\Keep zAK H H':=by
 apply zPq
 unfold zPA
 let I:Nat->zAn:=λi w h=>BufE 6 (λb=>H.size<=b/\b<h.size) h w ((zK3 ((zCq mv).take i) nm).map zE7)/\Keep zAK H h
 have hln:(zCq mv).length=mv.length:=by simp
 refine zNd (λw _ h=>I mv.length w h) (λk1 hk1=>?_) ?_
 rotate_left
 ·rintro w _ h ⟨b,k⟩
  rw[zAs (by omega)]at b
  exact⟨b,k⟩
 rw[hp.len,zAa]
 refine zVE (λw z h=>∃ i:Nat,i<=mv.length/\z = .int .i64 (i:Nat)/\I i w h) (λ_ z _=>match z with | .int _ t=>mv.length-t.toNat|_=>0) ⟨0,zAz _,rfl,BufE.nil,Keep.refl⟩ ?_
 rintro t5 _ h4 ⟨i,hi,rfl,b4,k4⟩ k3 hk3
 have g4:=k4.1
 rw[zOn,zAa,zAl]
 by_cases hlt:i<mv.length
 rotate_left
 ·rw[if_neg (by simpa using hlt)]
  obtain rfl:i=mv.length:=by omega
  exact hk1 _ _ _ ⟨b4,k4⟩
 rw[if_pos (by simpa using hlt)]
 have hg:mv[i]? = some mv[i]:=zAj hlt
 generalize mv[i]=x at *
 have hgh:(zCq mv)[i]? = some x.1:=by rw[zAq,hg];rfl
 obtain⟨hmx,b,o,hix,hpt,_⟩:=(hp.keep k4 λ_ _=>id).at hg
 have w:=hmx.wf
 refine zOd (λw h=>I (i+1) w h) (λk5 hk5=>?_) ?_
 rotate_left
 ·rintro w' h6 hI
  rw[zBU (by omega),zAa]
  exact hk3 _ _ _ ⟨i+1,by omega,rfl,hI⟩ (by show mv.length-(i+1)<mv.length-i;omega)
 rw[hix .i64,zAa,zMD hpt w,zAa]
 simp only[zJL,zBd]
 generalize hH7:h4.push (.cells (zGU ⟨[],zED,[],[],[]⟩ zCp zCp zCp).toArray zAg (0,0))=h7
 have k7:Keep zAK h4 h7:=by rw[<- hH7];exact Keep.push
 have a7:At h7 h4.size (zGU ⟨[],zED,[],[],[]⟩ zCp zCp zCp):=by rw[<- hH7];exact At.push
 obtain⟨h8,st8,a8,k8⟩:=a7.st (n:=8) (ds:=mvC x) (zBI zMh) (zBI w) (zGV hmx)
 have k48:Keep zAK h4 h8:=k7.fresh k8 λb hb=>by omega
 have k08:=k4.trans k48
 have g48:=k48.1
 simp only[zBk,zAh,zAu,zAa]
 rw[st8,zA0,zEc a8,zAa,zUG,zAa,zAl]
 have hot:zK3 ((zCq mv).take (i+1)) nm=zK3 ((zCq mv).take i) nm++(if (!decide (x.1.name=nm))=true then [⟨x.1.name,⟨[61],x.1.ver⟩⟩] else []):=by
  unfold zK3
  rw[zIC hgh,zAN]
  congr 1
  split<;>rfl
 have hol:(zK3 ((zCq mv).take i) nm).length<=1000:=by
  unfold zK3
  rw[zAf]
  have h1:=zBs (λm:Man=>!decide (m.name=nm)) ((zCq mv).take i)
  rw[zBe]at h1
  omega
 cases hq:decide (x.1.name=nm)
 rotate_left
 ·rw[if_neg (by decide)]
  rw[hq]at hot
  refine hk5 _ _ ⟨?_,k08⟩
  rw[hot]
  simp only[zAe,zAb,if_false,zAS]
  exact(b4.keep k48 λ_ _=>id).mono λb hb=>by omega
 ·rw[if_pos (by rfl),zAa,zKd a8 w,zAa]
  rw[hq]at hot
  have s61:(Value.string ⟨#[61]⟩)=str [61]:=rfl
  let d:Dep:=⟨x.1.name,⟨[61],x.1.ver⟩⟩
  have hd:d.wf:=⟨⟨w.ver,by simp[d]⟩,w.name⟩
  rw[s61,zAb5 w.ver,zAa]
  show Mpu (zCP prg zAH [(0,str d.name),(1,.agg (zEQ d.want).toArray)]) _
  rw[zAb6 hd,zAa,zSe hd,zCD]
  have hr:=zNW (T:=zAH) (h:=h8) (n:=6) (zEa hd) (zLx (d:=d))
  have kp:Keep zAK h8 (h8.push (.cells (zE7 d).toArray zAH (0,0))):=Keep.push
  have gp:=kp.1
  refine(((b4.keep k48 λ_ _=>id).keep kp λ_ _=>id).mono (G:=λb=>H.size<=b) λb hb=>hb.1).app hr (by omega) (by rw[zAf,zBb];omega) (by show H.size<=_;omega) λt h10 b10 k10=>?_
  refine hk5 _ _ ⟨?_,(k08.trans kp).fresh k10 λb hb=>hb⟩
  rw[hot]
  simp only[zAd,if_true,zAN,zBa,List.map_nil]
  exact BufE.re b10 λb hb hF=>⟨hF,hb⟩
structure zOW where
 kind:Int
 name:List UInt8
 want:zSW
 bound:Int
structure zOW.wf (a:zOW):Prop where
 name:a.name.length<=9223372036854775807
 want:a.want.wf
def zQX (a:zOW):List Value:=[.int .i64 a.kind,str a.name]++zEQ a.want++[.int .i64 a.bound]
theorem zSf {a:zOW}(h:a.wf):(zQX a).length=8:=by simp[zQX,zFf h.want]
section
variable {h:zAw} {q:Nat} {a:zOW}
theorem zNX (p:At h q (zQX a)):ld1 h (Ptr q 0)=some (.int .i64 a.kind):=p.ld rfl
theorem zSg (p:At h q (zQX a)):ld1 h (Ptr q 1)=some (str a.name):=p.ld rfl
theorem zYG (p:At h q (zQX a))(w:a.wf):Go.X.ldN 5 h (Ptr q 2)=some (Value.agg (zEQ a.want).toArray):=by
 obtain⟨T,p⟩:=p
 exact ldN_mid (A:=[.int .i64 a.kind,str a.name]) (B:=zEQ a.want) (C:=[.int .i64 a.bound]) p rfl (zFf w.want).symm
theorem zTa (p:At h q (zQX a))(w:a.wf):ld1 h (Ptr q 7)=some (.int .i64 a.bound):=p.ld (by
 have:=zFf w.want
 unfold zQX
 rw[zA6 (by simp[this]),zAy,this];rfl)
end
def zTb (a:zOW):Bool:=if a.kind=1 then zGn a.want else decide (a.want=zUM)
def zP3 (a:zOW):Bool:=decide (a.kind>=1)&&decide (a.kind<=3)&&zMz a.name&&zTb a&&decide (a.bound>=0)&&decide (a.bound<=65536)
theorem leI {x y:Int}:zAB .no .leq (.int .i64 x) (.int .i64 y)=some (.bool (decide (x<=y))):=by rw[zAG];rfl
set_option maxHeartbeats 1000000 in
theorem zZA {H:zAw}{a:zOW}(w:a.wf)(hO:zQE H):zAA prg zKK [.agg (zQX a).toArray] H λu H'=>u = .bool (zP3 a)/\Keep zAK H H':=by
 apply zNK
 unfold zNk
 simp only[zB7,zBd,zBk,zAh,zAu,zAa,zAk7]
 generalize hH1:H.push (.cells (zQX a).toArray zE4 (0,0))=H1
 have k1:Keep zAK H H1:=by rw[<- hH1];exact Keep.push
 have a1:At H1 H.size (zQX a):=by rw[<- hH1];exact At.push
 rw[zYG a1 w,zAa,zAhY w.want zR9,zAa]
 refine zOd (λu h=>u = .bool (zTb a)/\Keep zAK H1 h) (λk2 hk2=>?_) ?_
 ·rw[zNX a1,zAa,eqI,zAa,zAl]
  unfold zTb at hk2
  by_cases e:a.kind=1
  ·rw[if_pos e]at hk2
   rw[if_pos (by simpa using e),zAa]
   refine zAM (zNR w.want (hO.keep k1 λ_ h=>h.elim)) ?_
   rintro _ h ⟨rfl,k⟩
   exact hk2 _ _ ⟨rfl,k⟩
  ·rw[if_neg e]at hk2
   rw[if_neg (by simpa using e)]
   exact hk2 _ _ ⟨rfl,Keep.refl⟩
 rintro _ h3 ⟨rfl,k3⟩
 have a3:=a1.keep k3 id
 have k03:=k1.trans k3
 unfold zP3
 rw[zNX a3,zAa,geI,zAa]
 cases q1:decide (a.kind>=1)
 ·simp only[zBN,zAL,zAR,zAb,if_false,zAt,zAa,zAV]
  exact⟨by trivial,k03⟩
 refine zDu rfl ?_
 rw[zAa,leI,zAa]
 show Mpu (zBy (.bool true) (.bool (decide (a.kind<=3))) (.bool false)) _
 rw[zAt,if_pos rfl,zAa]
 cases q2:decide (a.kind<=3)
 ·simp only[zBN,zAL,zAR,zAb,if_false,zAt,zAa,zAV,zBP]
  exact⟨by trivial,k03⟩
 refine zDu rfl ?_
 rw[zSg a3,zAa]
 refine zAM (zX0 w.name) ?_
 rintro _ h8 ⟨rfl,k8⟩
 have a8:=a3.keep k8 id
 have k08:=k03.trans k8
 rw[zAt,if_pos rfl,zAa]
 cases q3:zMz a.name
 ·simp only[zBN,zAL,zAR,zAb,if_false,zAt,zAa,zAV,zBP]
  exact⟨by trivial,k08⟩
 refine zDu rfl ?_
 show Mpu (zBy (.bool true) (.bool (zTb a)) (.bool false)) _
 rw[zAt,if_pos rfl,zAa]
 cases q4:zTb a
 ·simp only[zBN,zAL,zAR,zAb,if_false,zAt,zAa,zAV,zBP]
  exact⟨by trivial,k08⟩
 refine zDu rfl ?_
 rw[zTa a8 w,zAa,geI,zAa]
 show Mpu (zBy (.bool true) (.bool (decide (a.bound>=0))) (.bool false)) _
 rw[zAt,if_pos rfl,zAa]
 cases q5:decide (a.bound>=0)
 ·simp only[zBN,zAL,zAR,zAb,if_false,zAt,zAa,zAV,zBP]
  exact⟨by trivial,k08⟩
 refine zDu rfl ?_
 rw[zTa a8 w,zAa,leI,zAa]
 show Mpu (zBy (.bool true) (.bool (decide (a.bound<=65536))) (.bool false)) _
 rw[zAt,if_pos rfl,zAa]
 exact⟨by simp,k08⟩
theorem zAb7 {P:zAY}{H:zAw}{mv:List MV}{wants:List Dep}{vh vw:Value}{b:Int}(hp:Prb P H mv wants vh vw)(hok:zHJ (zCq mv) wants b=false)(hl:mv.length<=256)(hwl:wants.length<=64)(hO:zQE H) :
  zAA prg zLi [.agg (zM4 vh vw b).toArray] H λu H'=>u = .tuple #[.slice none 0 0,.int .i64 0,.int .i64 10]/\Keep zAK H H':=by
 apply zK7
 unfold zMT
 simp only[zB7,zBd]
 have k1:Keep zAK H (H.push (.cells (zM4 vh vw b).toArray zBQ (0,0))):=Keep.push
 have a1:At (H.push (.cells (zM4 vh vw b).toArray zBQ (0,0))) H.size (zM4 vh vw b):=At.push
 rw[a1.ldN (n:=3) rfl,zAa]
 refine zAM (zAbq (hp.keep k1 λ_ _=>id) hl hwl (hO.keep k1 λ_ h=>h.elim)) ?_
 rintro _ h2 ⟨rfl,k2⟩
 rw[hok,if_neg (by decide),neI,zAa,zAl,if_pos (by decide)]
 exact⟨rfl,k1.trans k2⟩
def ChR (hv:List Man)(wants:List Dep)(b:Int)(PP:zAY)(H H':zAw)(u:Value):Prop :=
 (zHJ hv wants b=false/\u = .tuple #[.slice none 0 0,.int .i64 10]) \/
 (zHJ hv wants b=true/\∃ (r:Res) (s:Nat),Run hv b.toNat (.sol [] wants) 0 r s/\match r with
  | .ok l=>zJo hv l/\∃ t goal Fg,u = .tuple #[t,.int .i64 0]/\zCq goal=(zFN hv l).map (gM hv)/\BufE 8 Fg H' t (goal.map mvC)/\(∀ b,Fg b->H.size<=b/\b<H'.size)/\(∀ x∈goal,zL6 (λb=>PP b/\¬ Fg b) H' x.1 x.2.1 x.2.2.1 x.2.2.2)/\∀ x∈goal,x.1.deps.length<=1000/\x.1.conf.length<=1000
  | .fail=>u = .tuple #[.slice none 0 0,.int .i64 40]
  | .over=>u = .tuple #[.slice none 0 0,.int .i64 42])
theorem zAfa {v:Value}{b:Int}(hv:v.oneCell'=true):zCP prg zBQ [(0,v),(2,.int .i64 b)]=some (.agg (zM4 v zCp b).toArray):=by
 have k:zMN prg zBQ=some ([(0,1),(1,1),(2,1)],(zM4 zCp zCp 0).toArray):=by kernel_rfl
 have hc:v.cells=#[v]:=by
  cases v<;>first|rfl|(simp[Value.oneCell']at hv)
 rw[zJa k,zNb (off:=0) (n:=1) rfl (by rw[hc];rfl) (by simp[zM4]),zNb (off:=2) (n:=1) rfl rfl (by rw[hc];simp[zM4,spl]),zVF,hc]
 rfl
theorem zAiG:zBF prg zBQ=some (zM4 zCp zCp 0).toArray:=by kernel_rfl
theorem zAb8 {n:Nat}{F:zAY}{T:TypeId}{h:zAw}{x:List Value}(hx:x.length=n)(h1:∀ c∈x,c.oneCell'=true)(hF:F h.size):BufE n F (h.push (.cells x.toArray T (0,0))) (.slice (some ⟨h.size,0,none⟩) 1 1) [x] :=
 ⟨λy hy=>by rw[zAI.1 hy];exact hx,λy hy=>by rw[zAI.1 hy];exact h1,.inr ⟨h.size,0,1,x.toArray,T,(0,0),rfl,hF,zAi _,zCh,by simp[hx],λ_ _=>zKQ,by
  have:x.take n=x:=zAs (by omega)
  simpa [hx] using this⟩⟩
def zOX (inst:List Man)(nm:List UInt8)(w:zSW):List Dep:=⟨nm,w⟩::zK3 inst nm
set_option maxHeartbeats 4000000 in
theorem zAdX {P R:zAY}{p:Nat}{l:List Pk}{H:zAw}{v:Value}{mv:List MV}{a:zOW}{w:zSW}(hp:zNz P H v mv)(q:zOV R p l H)(hP:∀ b,P b->b<H.size)(ha:a.wf)(hw:w.wf)(hl:mv.length+l.length<=40)(hO:zQE H) :
  zAA prg zND [v,Ptr p 0,.agg (zQX a).toArray,.agg (zEQ w).toArray] H λu H'=>ChR (zEd (zCq mv) l) (zOX (zCq mv) a.name w) a.bound (λb=>P b\/R b\/(H.size<=b/\b<H'.size)) H H' u/\Keep zAK H H':=by
 apply zPo
 unfold zPy
 simp only[zB7,zBd,zBk,zAh,zAu,zAa,zAiG]
 generalize hH1:H.push (.cells (zQX a).toArray zE4 (0,0))=H1
 have k1:Keep zAK H H1:=by rw[<- hH1];exact Keep.push
 have a1:At H1 H.size (zQX a):=by rw[<- hH1];exact At.push
 have s1:H1.size=H.size+1:=by rw[<- hH1];simp
 generalize hH2:H1.push (.cells (zEQ w).toArray zBO (0,0))=H2
 have k2:Keep zAK H1 H2:=by rw[<- hH2];exact Keep.push
 have a2:At H2 H1.size (zEQ w):=by rw[<- hH2];exact At.push
 have s2:H2.size=H1.size+1:=by rw[<- hH2];simp
 have k02:=k1.trans k2
 have a12:=a1.keep k2 id
 have hR:∀ b,R b->b<H.size:=by obtain⟨_,_,_,_,_,_,_,_,_,_,_,h⟩:=q;exact h
 have dB:∀ h,Keep zAK H2 h->ld1 h (Ptr H.size 7)=some (.int .i64 a.bound):=λh k=>zTa (a12.keep k id) ha
 have dN:∀ h,Keep zAK H2 h->ld1 h (Ptr H.size 1)=some (str a.name):=λh k=>zSg (a12.keep k id)
 have dW:∀ h,Keep zAK H2 h->ldN 5 h (Ptr H1.size 0)=some (.agg (zEQ w).toArray):=λh k=>(a2.keep k id).ldN (zFf hw)
 let inst:=zCq mv
 have hil:inst.length=mv.length:=by simp[inst]
 have hthere:(zEd inst l).length<=40:=by
  unfold zEd
  have h1:=zBs (zXp inst) (l.map (·.1))
  rw[zAf]at h1
  rw[zAy];omega
 have hoth:(zK3 inst a.name).length<=40:=by
  unfold zK3
  have h1:=zBs (λm:Man=>!decide (m.name=a.name)) inst
  rw[zAf];omega
 let PQ:Nat->zAw->zAY:=λz h b=>(P b\/R b\/H2.size<=b)/\b<h.size/\b≠z
 let I1:zAn:=λx h=>∃ z vh mv',x=Ptr z 0/\At h z (zM4 vh zCp a.bound)/\zCq mv'=zEd inst l/\zNz (PQ z h) h vh mv'/\H2.size<=z/\Keep zAK H2 h
 have mre:∀ {Q Q':zAY} {h:zAw} {u:Value} {ml:List MV},zNz Q h u ml->(∀ b,Q b->Q' b)->zNz Q' h u ml:=λm k=>⟨m.h.mono k,λx hx=>(m.m x hx).mono k,m.sm⟩
 refine zOd I1 (λk3 hk3=>?_) ?_
 ·rw[dB _ Keep.refl,zAa]
  refine⟨?_,?_⟩
  ·refine zAM (zAb4 (hp.keep k02 λ_ _=>id) (q.keep k02 λ_ _=>id) (by omega) (by omega)) ?_
   rintro t19 h4 ⟨⟨mv',he,hm⟩,k4⟩
   have g4:=k4.1
   have o19:t19.oneCell'=true:=hm.h.oneC
   rw[dB _ k4,zBt,zA7,zAfa o19,zAa]
   generalize hH5:h4.push (.cells (zM4 zCp zCp 0).toArray zBQ (0,0))=h5
   have k5:Keep zAK h4 h5:=by rw[<- hH5];exact Keep.push
   have a5:At h5 h4.size (zM4 zCp zCp 0):=by rw[<- hH5];exact At.push
   have s5:h5.size=h4.size+1:=by rw[<- hH5];simp
   obtain⟨h6,st6,a6,k6⟩:=a5.st (n:=3) (ds:=zM4 t19 zCp a.bound) rfl rfl (λc hc=>by
    simp only[zM4,zAp,zCO,or_false]at hc
    rcases hc with rfl|rfl|rfl
    ·exact o19
    ·rfl
    ·rfl)
   have g6:=k6.1
   rw[dB _ (k4.trans k5),zBt,zA7,st6,zA0]
   refine hk3 _ _ ⟨h4.size,t19,mv',rfl,a6,he,mre ((hm.keep k5 λ_ _=>id).keep k6 λb hb e=>?_) λb hb=>?_,g4,(k4.trans k5).fresh k6 λb hb=>by omega⟩
   ·subst e
    rcases hb with h|h|h
    ·have:=hP _ h;omega
    ·have:=hR _ h;omega
    ·omega
   ·rcases hb with h|h|h
    ·have:=hP _ h;exact⟨.inl h,by omega,by omega⟩
    ·have:=hR _ h;exact⟨.inr (.inl h),by omega,by omega⟩
    ·exact⟨.inr (.inr h.1),by omega,by omega⟩
  ·generalize hH7:H2.push (.cells (zM4 zCp zCp 0).toArray zBQ (0,0))=h7
   have k7:Keep zAK H2 h7:=by rw[<- hH7];exact Keep.push
   have a7:At h7 H2.size (zM4 zCp zCp 0):=by rw[<- hH7];exact At.push
   have s7:h7.size=H2.size+1:=by rw[<- hH7];simp
   rw[dB _ k7,zBt,zA7]
   refine zAM (zAb4 (hp.keep (k02.trans k7) λ_ _=>id) (q.keep (k02.trans k7) λ_ _=>id) (by omega) (by omega)) ?_
   rintro t19 h8 ⟨⟨mv',he,hm⟩,k8⟩
   have g8:=k8.1
   have o19:t19.oneCell'=true:=hm.h.oneC
   rw[dB _ (k7.trans k8),zBt,zA7,zAfa o19,zAa]
   obtain⟨h9,st9,a9,k9⟩:=(a7.keep k8 id).st (n:=3) (ds:=zM4 t19 zCp a.bound) rfl rfl (λc hc=>by
    simp only[zM4,zAp,zCO,or_false]at hc
    rcases hc with rfl|rfl|rfl
    ·exact o19
    ·rfl
    ·rfl)
   have g9:=k9.1
   rw[st9,zA0]
   refine hk3 _ _ ⟨H2.size,t19,mv',rfl,a9,he,mre (hm.keep k9 λb hb e=>?_) λb hb=>?_,zAi _,(k7.trans k8).fresh k9 λb hb=>by omega⟩
   ·subst e
    rcases hb with h|h|h
    ·have:=hP _ h;omega
    ·have:=hR _ h;omega
    ·omega
   ·rcases hb with h|h|h
    ·have:=hP _ h;exact⟨.inl h,by omega,by omega⟩
    ·have:=hR _ h;exact⟨.inr (.inl h),by omega,by omega⟩
    ·exact⟨.inr (.inr (by omega)),by omega,by omega⟩
 rintro _ h10 ⟨z,vh,mv',rfl,a10,he,hm10,hz,k10⟩
 have g10:=k10.1
 have hd:(⟨a.name,w⟩:Dep).wf:=⟨hw,ha.name⟩
 have lz:=a10.lt
 let wants:=zOX inst a.name w
 let I2:zAw->Prop:=λh=>∃ vw,At h z (zM4 vh vw a.bound)/\SlE 6 (λb=>h10.size<=b/\b<h.size) h vw (wants.map zE7)/\Keep (· = z) h10 h
 have hpk:∀ h,Keep zAK H2 h->zNz P h v mv:=λh k=>hp.keep (k02.trans k) λ_ _=>id
 have fin:∀ (t27 t31:Value) (h13:zAw),BufE 6 (λb=>h10.size<=b) h13 t27 [zE7 ⟨a.name,w⟩]->SlE 6 (λb=>h10.size<=b) h13 t31 ((zK3 inst a.name).map zE7)->Keep zAK h10 h13->(∀ h,I2 h->∀ k:zAw->Prop,(∀ h,I2 h->k h)->k h) ->
   ∀ k11:zAw->Prop,(∀ h,I2 h->k11 h)->zKf zAH 6 72 h13 t27 t31 λt32 h14=>Mwr (st1 h14 (Ptr z 1) t32) λh15=>k11 h15:=λt27 t31 h13 b27 b31 k13 _ k11 hk11=>by
  have g13:=k13.1
  refine b27.app b31 (by omega) (by rw[zBb,zAf];omega) (by show h10.size<=h13.size;omega) λt32 h14 b14 k14=>?_
  obtain⟨h15,st15,a15,k15⟩:=((a10.keep k13 id).keep k14 λhb=>by omega).st1 (i:=1) (v:=t32) (by simp[zM4]) b14.sl.oneC
  rw[st15,zA0]
  have g15:=k15.1
  refine hk11 _ ⟨t32,a15,((BufE.re b14 (G:=λb=>h10.size<=b/\b<h14.size) λb h1 h2=>⟨h2,h1⟩).sl.keep k15 λb hb e=>by omega).mono λb hb=>by omega,?_⟩
  exact(((k13.mono λ_ _ h=>h.elim).fresh' k14 λb hb => .inr hb).trans k15)
 refine zAhd I2 (λk11 hk11=>?_) ?_
 ·rw[dN _ k10,zAa,dW _ k10,zAa]
  show Mpu (zCP prg zAH [(0,str (⟨a.name,w⟩:Dep).name),(1,.agg (zEQ (⟨a.name,w⟩:Dep).want).toArray)]) _
  rw[zAb6 hd,zAa,zAa]
  simp only[zBk,zAh,zAa]
  refine⟨?_,?_⟩
  ·rw[zSe hd,zCD]
   have kp:Keep zAK h10 (h10.push (.cells (zE7 ⟨a.name,w⟩).toArray zAH (0,0))):=Keep.push
   have hb:=zAb8 (T:=zAH) (h:=h10) (n:=6) (F:=λb=>h10.size<=b) (zEa hd) zLx (zAi _)
   generalize h10.push (.cells (zE7 ⟨a.name,w⟩).toArray zAH (0,0))=h12 at *
   rw[dN _ (k10.trans kp),zBt,zA7]
   refine zAM (zYF (hpk _ (k10.trans kp)) (by omega)) ?_
   rintro t31 h13 ⟨b31,k13⟩
   have gp:=kp.1
   rw[dW _ ((k10.trans kp).trans k13),dN _ ((k10.trans kp).trans k13),zBt,zBt,zA7]
   exact fin _ _ _ (hb.keep k13 λ_ _=>id) (b31.sl.mono λb hb=>by show h10.size<=b;omega) (kp.trans k13) (λh hI k hk=>hk h hI) k11 hk11
  ·refine zAM (zYF (hpk _ k10) (by omega)) ?_
   rintro t31 h16 ⟨b31,k16⟩
   rw[dW _ (k10.trans k16),dN _ (k10.trans k16),zBt,zBt,zA7,zSe hd,zCD]
   have g16:=k16.1
   have kp:Keep zAK h16 (h16.push (.cells (zE7 ⟨a.name,w⟩).toArray zAH (0,0))):=Keep.push
   have hb:=zAb8 (T:=zAH) (h:=h16) (n:=6) (F:=λb=>h10.size<=b) (zEa hd) zLx (show h10.size<=h16.size by omega)
   generalize hv27:Value.slice (some ⟨h16.size,0,none⟩) 1 1=t27 at *
   generalize h16.push (.cells (zE7 ⟨a.name,w⟩).toArray zAH (0,0))=h17 at *
   rw[dN _ ((k10.trans k16).trans kp),zBt,zA7]
   exact fin _ _ _ hb ((b31.sl.keep kp λ_ _=>id).mono λb hb=>by show h10.size<=b;omega) (k16.trans kp) (λh hI k hk=>hk h hI) k11 hk11
 rintro h20 ⟨vw,a20,w20,k20⟩
 have g20:=k20.1
 rw[a20.ldN (n:=3) rfl,zAa]
 have k220:Keep zAK H2 h20:=k10.fresh k20 λb hb=>by omega
 have k020:=k02.trans k220
 let PS:zAY:=λb=>(P b\/R b\/H2.size<=b)/\b<h20.size
 have hm20:zNz (PQ z h10) h20 vh mv':=hm10.keep k20 λb hb=>hb.2.2
 have hml:mv'.length<=40:=by
  have:(zCq mv').length=mv'.length:=by simp
  rw[<- this,he];exact hthere
 have hwf:∀ d∈wants,d.wf:=λd hd'=>by
  rcases zAp.1 hd' with rfl|hd'
  ·exact hd
  ·obtain⟨m,hm,rfl⟩:=zAo.1 hd'
   obtain⟨hm,_⟩:=zAU.1 hm
   obtain⟨x,hx,rfl⟩:=zAo.1 hm
   have wx:=(hp.m x hx).wf
   exact⟨⟨wx.ver,by simp⟩,wx.name⟩
 have prb:Prb PS h20 mv' wants vh vw:=⟨hm20.h.mono λb hb=>⟨hb.1,by have:=hb.2.1;omega⟩,λx hx=>(hm20.m x hx).mono λb hb=>⟨hb.1,by have:=hb.2.1;omega⟩,w20.mono λb hb=>⟨.inr (.inr (by omega)),hb.2⟩,hwf,hm20.sm⟩
 have hwl:wants.length<=64:=by show(zK3 inst a.name).length+1<=64;omega
 have hO20:zQE h20:=hO.keep k020 λ_ h=>h.elim
 have x0:∀ a b c:Value,zE3 0 (.tuple #[a,b,c])=some a:=λ_ _ _=>rfl
 have x1:∀ a b c:Value,zE3 1 (.tuple #[a,b,c])=some b:=λ_ _ _=>rfl
 have x2:∀ a b c:Value,zE3 2 (.tuple #[a,b,c])=some c:=λ_ _ _=>rfl
 have hhe:zCq mv'=zEd (zCq mv) l:=he
 cases hok:zHJ (zCq mv') wants a.bound
 ·refine zAM (zAb7 prb hok (by omega) hwl hO20) ?_
  rintro _ h21 ⟨rfl,k21⟩
  rw[x0,zAa,x1,zAa,x2,zAa,neI,zAa,zAl,if_pos (by decide)]
  exact⟨.inl ⟨by rw[<- hhe];exact hok,rfl⟩,k020.trans k21⟩
 refine zAM (zAgE prb (λb hb=>hb.2) hok hml hwl hO20) ?_
 rintro u h21 ⟨⟨r,s,hrun,hu⟩,k21⟩
 have k021:=k020.trans k21
 have g21:=k21.1
 have g020:=k020.1
 rw[hhe]at hrun hok hu
 cases r with
 | fail =>
  obtain rfl:=hu
  rw[x0,zAa,x1,zAa,x2,zAa,neI,zAa,zAl,if_pos (by decide)]
  exact⟨.inr ⟨hok,.fail,s,hrun,rfl⟩,k021⟩
 | over =>
  obtain rfl:=hu
  rw[x0,zAa,x1,zAa,x2,zAa,neI,zAa,zAl,if_pos (by decide)]
  exact⟨.inr ⟨hok,.over,s,hrun,rfl⟩,k021⟩
 | ok ks =>
  obtain⟨hns,t37,rfl,b37⟩:=hu
  rw[x0,zAa,x1,zAa,x2,zAa,neI,zAa,zAl,if_neg (by decide)]
  have hm21:zNz (PQ z h10) h21 vh mv':=hm20.keep k21 λ_ _=>id
  have a21:=a20.keep k21 id
  let sl:=zFN (zEd (zCq mv) l) ks
  have hsn:zJo (zEd (zCq mv) l) sl:=hns.sorted
  have hthl:(zEd (zCq mv) l).length=mv'.length:=by rw[<- hhe];simp
  have hsl:sl.length<=40:=by have:=hsn.len;omega
  have hlen:=b37.sl.len
  rw[zME,zPE]at hlen
  let I:Nat->zAn:=λi t h=>∃ goal,zCq goal=(sl.take i).map (gM (zEd (zCq mv) l))/\BufE 8 (λb=>h21.size<=b/\b<h.size) h t (goal.map mvC)/\(∀ x∈goal,x∈mv')/\Keep zAK h21 h
  refine zNd (λt _ h=>I sl.length t h) (λk22 hk22=>?_) ?_
  rotate_left
  ·rintro t _ h ⟨goal,hg,hb,hmm,kh⟩
   rw[zAs (zAi _)]at hg
   have gh:=kh.1
   refine⟨.inr ⟨hok,.ok ks,s,hrun,hns,t,goal,λb=>h21.size<=b/\b<h.size,rfl,hg,hb,λb hb=>by omega,λx hx=>?_,λx hx=>hm21.sm x (hmm x hx)⟩,k021.trans kh⟩
   exact((hm21.m x (hmm x hx)).keep kh λ_ _=>id).mono λb hb=>by
    have h3:=hb.2.1
    refine⟨?_,λhh=>by omega⟩
    rcases hb.1 with h|h|h
    ·exact .inl h
    ·exact .inr (.inl h)
    ·exact .inr (.inr ⟨by omega,by omega⟩)
  rw[hlen,zAa]
  refine zVE (λt y h=>∃ i:Nat,i<=sl.length/\y = .int .i64 (i:Nat)/\I i t h) (λ_ y _=>match y with | .int _ t=>sl.length-t.toNat|_=>0) ⟨0,zAz _,rfl,[],rfl,BufE.nil,λx hx=>(by cases hx),Keep.refl⟩ ?_
  rintro t14 _ h25 ⟨i,hi,rfl,goal,hg,hb,hmm,kh⟩ k24 hk24
  have gh:=kh.1
  rw[zOn,zAa,zAl]
  by_cases hlt:i<sl.length
  rotate_left
  ·rw[if_neg (by simpa using hlt)]
   obtain rfl:i=sl.length:=by omega
   exact hk22 _ _ _ ⟨goal,hg,hb,hmm,kh⟩
  rw[if_pos (by simpa using hlt)]
  have hgl:sl[i]? = some sl[i]:=zAj hlt
  have hkl:=hsn.1 _ (zAE hlt)
  generalize sl[i]=k at *
  obtain⟨b1,o1,hix1,hpt1,_⟩:=(b37.sl.keep kh λ_ _=>id).at (i:=i) (x:=[.int .i64 ((k:Nat):Int)]) (zQM (zAij hgl))
  rw[hix1 .i64,zAa,hpt1.cell0 rfl,zAa,zBk,zAa,zAh,(a21.keep kh id).ld (i:=0) rfl,zAa]
  have hgk:mv'[k]? = some (mv'[k]'(by omega)):=zAj (by omega)
  have hkm:=zAE (show k<mv'.length by omega)
  generalize mv'[k]'(by omega)=x at *
  have hgm:gM (zEd (zCq mv) l) k=x.1:=by rw[<- hhe];exact zAbk hgk
  obtain⟨hmx,b2,o2,hix2,hpt2,_⟩:=(hm21.keep kh λ_ _=>id).at hgk
  have wx:=hmx.wf
  rw[hix2 .i64,zAa,zMD hpt2 wx,zAa,zRt (zBI wx),zCD]
  have hr:=zNW (T:=zAg) (h:=h25) (n:=8) (zBI wx:(mvC x).length=8) (zGV hmx)
  have kp:Keep zAK h25 (h25.push (.cells (mvC x).toArray zAg (0,0))):=Keep.push
  have gp:=kp.1
  have hgoal:goal.length=i:=by
   have:=congrArg List.length hg
   rw[zAf,zAf,zBe]at this;omega
  refine((hb.keep kp λ_ _=>id).mono (G:=λb=>h21.size<=b) λb hb=>hb.1).app hr (by omega) (by rw[zAf,zBb];omega) (by show h21.size<=_;omega) λt h27 b27 k27=>?_
  rw[zBU (by omega),zAa]
  refine hk24 _ _ _ ⟨i+1,by omega,rfl,goal++[x],?_,?_,λy hy=>?_,?_⟩ (by show sl.length-(i+1)<sl.length-i;omega)
  ·rw[zAJ,hgl,zAN,<- hg]
   simp[zCq,hgm]
  ·rw[show(goal++[x]).map mvC=goal.map mvC++[mvC x] by simp]
   exact BufE.re b27 λb h1 h2=>⟨h2,h1⟩
  ·rcases zAr.1 hy with hy|hy
   ·exact hmm y hy
   ·rw[zAI.1 hy];exact hkm
  ·exact(kh.trans kp).fresh k27 λb hb=>hb
open Go.Sort (swp PermIn SortedIn Below SWO)
instance:Inhabited MV:=⟨(⟨[],zED,[],[],[]⟩,zCp,zCp,zCp)⟩
def zXq (x y:MV):Bool:=decide (zMA x.1.name y.1.name<0)
theorem zAgO:SWO zXq:=zAbK zFG λx:MV=>x.1.name
def zU0 (l:List MV):Prop:=l.Pairwise λx y=>zMA x.1.name y.1.name<0
theorem zAdY {l l':List MV}(hr:zU0 l)(hp:l'.Perm l)(hs:l'.Pairwise (λx y=>zXq y x=false)):l'=l:=by
 have hs2:l.Pairwise (λx y=>zXq y x=false):=hr.imp λ{a b} h=>by
  unfold zXq
  have:=zFG.turn a.1.name b.1.name
  rw[decide_eq_false];omega
 refine zRm (λa ha b hb h1 h2=>?_) hp hs hs2
 have ha':=hp.mem_iff.1 ha
 have hb':=hp.mem_iff.1 hb
 obtain⟨i,hi,rfl⟩:=zBA ha'
 obtain⟨j,hj,rfl⟩:=zBA hb'
 have hq:=zBC.1 hr
 unfold zXq at h1 h2
 rcases Nat.lt_trichotomy i j with h|h|h
 ·have:=hq i j hi hj h
  simp[this]at h1
 ·subst h;rfl
 ·have:=hq j i hj hi h
  simp[this]at h2
theorem zAb9 {F:zAY}{H:zAw}{v:Value}{l:List MV}(hv:BufE 8 F H v (l.map mvC))(hr:zU0 l)(hF:∀ b,F b->b<H.size)(hl:l.length<=900000) :
  zAA prg zCE [v,.func (.func zEV) #[] #[]] H λ_ H'=>BufE 8 F H' v (l.map mvC)/\Keep F H H':=by
 apply zEg
 unfold zDj
 have hlen:=hv.sl.len
 rw[zAf]at hlen
 let fv:Value := .func (.func zEV) #[] #[]
 have hcE:zAj1 (Ev8 mvC) fv zXq (λ_=>True):=λx y h _=>by
  refine zYz (x:=x) (y:=y) λh' k=>⟨⟨_,rfl,rfl⟩,k⟩
 have ok:zIi (zKG fv) mvC (Ev8 mvC) zXq (λ_=>True) F v:=⟨λhr _ hi=>zUW hr hi,λhr _ _ hi hj=>zAbC hr hi hj,λhg hk=>zAeV hcE hg hk⟩
 rw[hlen,zAa,zAbL (by omega),zAa]
 refine zAM (zAe2 (by omega)) ?_
 rintro _ _ ⟨⟨m,rfl,hm⟩,rfl⟩
 refine zAM (zXj (zOo fv) ok zAgO (l:=l) (m:=m) hv (λ_ _=>trivial) hF hl hm) ?_
 rintro _ H' ⟨⟨l',h1,h2,h3⟩,k⟩
 rw[zAdY hr h1 h2]at h3
 exact⟨h3,k⟩
def Own (n0:Nat)(col:Nat->Nat)(k:Nat)(h:zAw)(b:Nat):Prop:=col b=k/\n0<=b/\b<h.size
def zIN (col:Nat->Nat)(h:zAw)(k:Nat)(b:Nat):Nat:=if b<h.size then col b else k
theorem Own.ext {n0:Nat}{col:Nat->Nat}{k j:Nat}{h h':zAw}{b:Nat}(o:Own n0 col k h b)(hs:h.size<=h'.size):Own n0 (zIN col h j) k h' b :=
 ⟨by unfold zIN;rw[if_pos o.2.2];exact o.1,o.2.1,zAW o.2.2 hs⟩
theorem Own.new {n0:Nat}{col:Nat->Nat}{k:Nat}{h h':zAw}{b:Nat}(hn:n0<=h.size)(h1:h.size<=b)(h2:b<h'.size):Own n0 (zIN col h k) k h' b :=
 ⟨by unfold zIN;rw[if_neg (by omega)],by omega,h2⟩
theorem zAgP {n n0 sz k:Nat}{T:TypeId}{P:zAY}{col:Nat->Nat}{h:zAw}{v x:Value}{xs ys:List (List Value)}{K:zAn}(b:BufE n (Own n0 col k h) h v xs)(hx:SlE n P h x ys)(h0:0<sz)(hlen:(xs.length+ys.length)*sz<=140737488355328)(hn:n0<=h.size)
  (hk:∀ v' h',BufE n (Own n0 (zIN col h k) k h') h' v' (xs++ys)->Keep (λb=>Own n0 col k h b\/h.size<=b) h h'->K v' h'):zKf T n sz h v x K:=by
 refine(b.mono (G:=λb=>Own n0 col k h b\/h.size<=b) λ_ hb => .inl hb).app hx h0 hlen (.inr (zAi _)) λv' h' b' k'=>hk v' h' (BufE.re b' λb hl hb=>?_) k'
 rcases hb with hb|hb
 ·exact hb.ext k'.1
 ·exact Own.new hn hb hl
def chC (kind:Int)(d s t:Value):List Value:=[.int .i64 kind,d,s,t]
structure ChI (n0 z:Nat)(kind:Int)(col:Nat->Nat)(d s t:Value)(dr:List MV)(ad:List PW)(af:List MV)(h:zAw):Prop where
 a:At h z (chC kind d s t)
 bd:BufE 8 (Own n0 col 1 h) h d (dr.map mvC)
 bs:BufE 9 (Own n0 col 2 h) h s (ad.map pvC)
 bt:BufE 8 (Own n0 col 3 h) h t (af.map mvC)
 md:∀ x∈dr,zL6 (Own n0 col 4 h) h x.1 x.2.1 x.2.2.1 x.2.2.2
 ms:∀ x∈ad,PkV (Own n0 col 4 h) h x
 mt:∀ x∈af,zL6 (Own n0 col 4 h) h x.1 x.2.1 x.2.2.1 x.2.2.2
 n:n0<=h.size
 zl:z<n0
section
variable {n0 z:Nat} {kind:Int} {col:Nat->Nat} {d s t:Value} {dr:List MV} {ad:List PW} {af:List MV} {h h':zAw}
theorem ChI.fresh (c:ChI n0 z kind col d s t dr ad af h)(k:Keep zAK h h'):ChI n0 z kind (zIN col h 4) d s t dr ad af h' :=
 ⟨c.a.keep k id,(c.bd.keep k λ_ _=>id).mono λ_ o=>o.ext k.1,(c.bs.keep k λ_ _=>id).mono λ_ o=>o.ext k.1,(c.bt.keep k λ_ _=>id).mono λ_ o=>o.ext k.1,λx hx=>((c.md x hx).keep k λ_ _=>id).mono λ_ o=>o.ext k.1,λx hx=>((c.ms x hx).keep k λ_ _=>id).mono λ_ o=>o.ext k.1,λx hx=>((c.mt x hx).keep k λ_ _=>id).mono λ_ o=>o.ext k.1,zBm c.n k.1,c.zl⟩
theorem ChI.low {S:zAY}(c:ChI n0 z kind col d s t dr ad af h)(k:Keep S h h')(hS:∀ b,S b->(b<n0/\b≠z)\/h.size<=b):ChI n0 z kind (zIN col h 4) d s t dr ad af h':=by
 have ho:∀ j b,Own n0 col j h b->¬ S b:=λj b o hs=>by
  rcases hS b hs with h1|h1
  ·have:=o.2.1;omega
  ·have:=o.2.2;omega
 have hz:¬ S z:=λhs=>by
  rcases hS z hs with h1|h1
  ·exact h1.2 rfl
  ·have:=c.n;have:=c.zl;omega
 exact⟨c.a.keep k hz,(c.bd.keep k (ho 1)).mono λ_ o=>o.ext k.1,(c.bs.keep k (ho 2)).mono λ_ o=>o.ext k.1,(c.bt.keep k (ho 3)).mono λ_ o=>o.ext k.1,λx hx=>((c.md x hx).keep k (ho 4)).mono λ_ o=>o.ext k.1,λx hx=>((c.ms x hx).keep k (ho 4)).mono λ_ o=>o.ext k.1,λx hx=>((c.mt x hx).keep k (ho 4)).mono λ_ o=>o.ext k.1,zBm c.n k.1,c.zl⟩
theorem ChI.coarse (c:ChI n0 z kind col d s t dr ad af h){j:Nat}(k:Keep (λb=>(Own n0 col j h b\/h.size<=b)\/b=z) h h'):Keep (λb=>n0<=b\/b=z) h h' :=
 k.mono λb _ hb=>hb.imp (λhh=>hh.elim (λo=>o.2.1) λh=>zBm c.n h) id
theorem zJN {j k:Nat}(hjk:j≠k){b:Nat}(o:Own n0 col j h b):¬ (Own n0 col k h b\/h.size<=b):=λhh=>by
 rcases hh with hh|hh
 ·exact hjk (o.1.symm.trans hh.1)
 ·have:=o.2.2;omega
theorem ChI.addD (c:ChI n0 z kind col d s t dr ad af h){x:MV}{P:zAY}{y:Value}{K:zAw->Prop}(hx:zL6 (Own n0 col 4 h) h x.1 x.2.1 x.2.2.1 x.2.2.2)(hy:SlE 8 P h y [mvC x])(hl:dr.length<=1000000)
  (hk:∀ h' col' d',ChI n0 z kind col' d' s t (dr++[x]) ad af h'->Keep (λb=>(Own n0 col 1 h b\/h.size<=b)\/b=z) h h'->K h'):zKf zAg 8 128 h d y λv h1=>Mwr (st1 h1 (Ptr z 1) v) K:=by
 refine zAgP c.bd hy (by omega) (by rw[zAf,zBb];omega) c.n λv h1 b1 k1=>?_
 have hz:¬ (Own n0 col 1 h z\/h.size<=z):=λhh=>by
  have:=c.zl
  rcases hh with hh|hh
  ·have:=hh.2.1;omega
  ·have:=c.n;omega
 obtain⟨h2,st2,a2,k2⟩:=(c.a.keep k1 hz).st1 (i:=1) (v:=v) (by simp[chC]) b1.sl.oneC
 rw[st2,zA0]
 have g1:=k1.1
 have g2:=k2.1
 have zz:∀ {j b},Own n0 (zIN col h 1) j h1 b->b≠z:=λo e=>by have:=o.2.1;have:=c.zl;omega
 have up:∀ {j b},Own n0 (zIN col h 1) j h1 b->Own n0 (zIN col h 1) j h2 b:=λo=>⟨o.1,o.2.1,by have:=o.2.2;omega⟩
 refine hk h2 (zIN col h 1) v ⟨a2,?_,((((c.bs.keep k1 λb o=>zJN (by decide) o).mono λ_ o=>o.ext g1).keep k2 λb o=>zz o).mono λ_ o=>up o),((((c.bt.keep k1 λb o=>zJN (by decide) o).mono λ_ o=>o.ext g1).keep k2 λb o=>zz o).mono λ_ o=>up o),λu hu=>?_,λu hu=>((((c.ms u hu).keep k1 λb o=>zJN (by decide) o).mono λ_ o=>o.ext g1).keep k2 λb o=>zz o).mono λ_ o=>up o,λu hu=>((((c.mt u hu).keep k1 λb o=>zJN (by decide) o).mono λ_ o=>o.ext g1).keep k2 λb o=>zz o).mono λ_ o=>up o,by have:=c.n;omega,c.zl⟩ ?_
 ·rw[show(dr++[x]).map mvC=dr.map mvC++[mvC x] by simp]
  exact(b1.keep k2 λb o=>zz o).mono λ_ o=>up o
 ·rcases zAr.1 hu with hu|hu
  ·exact((((c.md u hu).keep k1 λb o=>zJN (by decide) o).mono λ_ o=>o.ext g1).keep k2 λb o=>zz o).mono λ_ o=>up o
  ·rw[zAI.1 hu]
   exact(((hx.keep k1 λb o=>zJN (by decide) o).mono λ_ o=>o.ext g1).keep k2 λb o=>zz o).mono λ_ o=>up o
 ·exact(k1.mono λb _ hb => .inl hb).trans (k2.mono λ_ _ e => .inr e)
theorem ChI.addA (c:ChI n0 z kind col d s t dr ad af h){x:MV}{P:zAY}{y:Value}{K:zAw->Prop}(hx:zL6 (Own n0 col 4 h) h x.1 x.2.1 x.2.2.1 x.2.2.2)(hy:SlE 8 P h y [mvC x])(hl:af.length<=1000000)
  (hk:∀ h' col' t',ChI n0 z kind col' d s t' dr ad (af++[x]) h'->Keep (λb=>(Own n0 col 3 h b\/h.size<=b)\/b=z) h h'->K h'):zKf zAg 8 128 h t y λv h1=>Mwr (st1 h1 (Ptr z 3) v) K:=by
 refine zAgP c.bt hy (by omega) (by rw[zAf,zBb];omega) c.n λv h1 b1 k1=>?_
 have hz:¬ (Own n0 col 3 h z\/h.size<=z):=λhh=>by
  have:=c.zl
  rcases hh with hh|hh
  ·have:=hh.2.1;omega
  ·have:=c.n;omega
 obtain⟨h2,st2,a2,k2⟩:=(c.a.keep k1 hz).st1 (i:=3) (v:=v) (by simp[chC]) b1.sl.oneC
 rw[st2,zA0]
 have g1:=k1.1
 have g2:=k2.1
 have zz:∀ {j b},Own n0 (zIN col h 3) j h1 b->b≠z:=λo e=>by have:=o.2.1;have:=c.zl;omega
 have up:∀ {j b},Own n0 (zIN col h 3) j h1 b->Own n0 (zIN col h 3) j h2 b:=λo=>⟨o.1,o.2.1,by have:=o.2.2;omega⟩
 refine hk h2 (zIN col h 3) v ⟨a2,((((c.bd.keep k1 λb o=>zJN (by decide) o).mono λ_ o=>o.ext g1).keep k2 λb o=>zz o).mono λ_ o=>up o),((((c.bs.keep k1 λb o=>zJN (by decide) o).mono λ_ o=>o.ext g1).keep k2 λb o=>zz o).mono λ_ o=>up o),?_,λu hu=>((((c.md u hu).keep k1 λb o=>zJN (by decide) o).mono λ_ o=>o.ext g1).keep k2 λb o=>zz o).mono λ_ o=>up o,λu hu=>((((c.ms u hu).keep k1 λb o=>zJN (by decide) o).mono λ_ o=>o.ext g1).keep k2 λb o=>zz o).mono λ_ o=>up o,λu hu=>?_,by have:=c.n;omega,c.zl⟩ ?_
 ·rw[show(af++[x]).map mvC=af.map mvC++[mvC x] by simp]
  exact(b1.keep k2 λb o=>zz o).mono λ_ o=>up o
 ·rcases zAr.1 hu with hu|hu
  ·exact((((c.mt u hu).keep k1 λb o=>zJN (by decide) o).mono λ_ o=>o.ext g1).keep k2 λb o=>zz o).mono λ_ o=>up o
  ·rw[zAI.1 hu]
   exact(((hx.keep k1 λb o=>zJN (by decide) o).mono λ_ o=>o.ext g1).keep k2 λb o=>zz o).mono λ_ o=>up o
 ·exact(k1.mono λb _ hb => .inl hb).trans (k2.mono λ_ _ e => .inr e)
theorem ChI.addS (c:ChI n0 z kind col d s t dr ad af h){x:PW}{P:zAY}{y:Value}{K:zAw->Prop}(hx:PkV (Own n0 col 4 h) h x)(hy:SlE 9 P h y [pvC x])(hl:ad.length<=1000000)
  (hk:∀ h' col' s',ChI n0 z kind col' d s' t dr (ad++[x]) af h'->Keep (λb=>(Own n0 col 2 h b\/h.size<=b)\/b=z) h h'->K h'):zKf zA4 9 152 h s y λv h1=>Mwr (st1 h1 (Ptr z 2) v) K:=by
 refine zAgP c.bs hy (by omega) (by rw[zAf,zBb];omega) c.n λv h1 b1 k1=>?_
 have hz:¬ (Own n0 col 2 h z\/h.size<=z):=λhh=>by
  have:=c.zl
  rcases hh with hh|hh
  ·have:=hh.2.1;omega
  ·have:=c.n;omega
 obtain⟨h2,st2,a2,k2⟩:=(c.a.keep k1 hz).st1 (i:=2) (v:=v) (by simp[chC]) b1.sl.oneC
 rw[st2,zA0]
 have g1:=k1.1
 have g2:=k2.1
 have zz:∀ {j b},Own n0 (zIN col h 2) j h1 b->b≠z:=λo e=>by have:=o.2.1;have:=c.zl;omega
 have up:∀ {j b},Own n0 (zIN col h 2) j h1 b->Own n0 (zIN col h 2) j h2 b:=λo=>⟨o.1,o.2.1,by have:=o.2.2;omega⟩
 refine hk h2 (zIN col h 2) v ⟨a2,((((c.bd.keep k1 λb o=>zJN (by decide) o).mono λ_ o=>o.ext g1).keep k2 λb o=>zz o).mono λ_ o=>up o),?_,((((c.bt.keep k1 λb o=>zJN (by decide) o).mono λ_ o=>o.ext g1).keep k2 λb o=>zz o).mono λ_ o=>up o),λu hu=>((((c.md u hu).keep k1 λb o=>zJN (by decide) o).mono λ_ o=>o.ext g1).keep k2 λb o=>zz o).mono λ_ o=>up o,λu hu=>?_,λu hu=>((((c.mt u hu).keep k1 λb o=>zJN (by decide) o).mono λ_ o=>o.ext g1).keep k2 λb o=>zz o).mono λ_ o=>up o,by have:=c.n;omega,c.zl⟩ ?_
 ·rw[show(ad++[x]).map pvC=ad.map pvC++[pvC x] by simp]
  exact(b1.keep k2 λb o=>zz o).mono λ_ o=>up o
 ·rcases zAr.1 hu with hu|hu
  ·exact((((c.ms u hu).keep k1 λb o=>zJN (by decide) o).mono λ_ o=>o.ext g1).keep k2 λb o=>zz o).mono λ_ o=>up o
  ·rw[zAI.1 hu]
   exact(((hx.keep k1 λb o=>zJN (by decide) o).mono λ_ o=>o.ext g1).keep k2 λb o=>zz o).mono λ_ o=>up o
 ·exact(k1.mono λb _ hb => .inl hb).trans (k2.mono λ_ _ e => .inr e)
end
end Go.Proofs.YticdfkoncnnmmaaGreatDoor
