import Derived.Test.YticdfkoncnnmmaaGreatDoorH9
import Derived.Test.YticdfkoncnnmmaaGreatDoorGO
import Derived.Test.YticdfkoncnnmmaaGreatDoorH4
import Derived.Test.YticdfkoncnnmmaaGreatDoorH7
set_option linter.unusedSimpArgs false
set_option linter.unusedVariables false
set_option maxRecDepth 100000
namespace Go.Proofs.YticdfkoncnnmmaaGreatDoor
open Go.X Go.X.Diff Go.MapKept
theorem zZ1 {α β:Type}{p:β->Bool}{g:α->β}:∀ {l:List α} {k:Nat},zUw p (l.map g) k=zUw (λx=>p (g x)) l k
 | [],_=>rfl
 | x::l,k=>by rw[zAW,zUw,zUw,zZ1 (l:=l)]
theorem zZ2 {α:Type}{p:α->Bool}{x:α}:∀ {l:List α} {i:Nat},l[i]? = some x->p x=true->(∀ y∈l.take i,p y=false)->l.find? p=some x
 | [],_,h,_,_=>by simp at h
 | a::l,0,h,hp,_=>by simp at h;subst h;simp[hp]
 | a::l,i+1,h,hp,hn=>by
  rw[List.find?_cons,hn a (by simp)]
  exact zZ2 (l:=l) (i:=i) (by simpa using h) hp λy hy=>hn y (by rw[zBT];simp[hy])
theorem zRE {α:Type}{p:α->Bool}{l:List α}:(zUw p l 0 = -1/\l.find? p=none)\/∃ (i:Nat) (x:α),zUw p l 0=(i:Int)/\l[i]? = some x/\l.find? p=some x:=by
 rcases zXt (p:=p) (l:=l) (k:=0) with ⟨h1,h2⟩|⟨i,x,h1,h2,h3,h4⟩
 ·exact .inl ⟨h1,zC4.2 λx hx=>by simp[h2 x hx]⟩
 ·exact .inr ⟨i,x,by rw[h1,zAg],h2,zZ2 h2 h3 h4⟩
def zKo (nm:List UInt8)(v:Ver)(y:Pk):Bool:=decide (y.1.name=nm)&&decide (y.1.ver=v)
def zYL (x:Pk):Bool:=zFO x.1&&zGe x.1.files x.2
def zAaZ (l:List Pk)(x:Pk):Int:=if zYL x=false then 10 else match l.find? (zKo x.1.name x.1.ver) with
 | some y=>if zUe y.1 x.1 then 0 else 44
 | none=>if l.length=256 then 12 else 0
def zS0 (l:List Pk)(x:Pk):List Pk:=if zYL x=false then l else match l.find? (zKo x.1.name x.1.ver) with
 | some _=>l
 | none=>if l.length=256 then l else l++[x]
def zPN (R:zA2)(p:Nat)(l:List Pk)(h:zAw):Prop:=∃ (F P:zA2) (u:Value) (pv:List PW),pv.map zLR=l/\At h p [u]/\BufE 9 F h u (pv.map pvC)/\(∀ x∈pv,PkV P h x)/\(∀ b,F b->R b/\b≠p/\¬ P b)/\(∀ b,P b->R b/\b≠p)/\R p/\∀ b,R b->b<h.size
theorem zPN.keep {R S:zA2}{p:Nat}{l:List Pk}{h h':zAw}(q:zPN R p l h)(k:Keep S h h')(hs:∀ b,R b->¬ S b):zPN R p l h':=by
 obtain⟨F,P,u,pv,q1,q2,q3,q4,q5,q6,q7,q8⟩:=q
 exact⟨F,P,u,pv,q1,q2.keep k (hs _ q7),q3.keep k λb hb=>hs b (q5 b hb).1,λx hx=>(q4 x hx).keep k λb hb=>hs b (q6 b hb).1,q5,q6,q7,λb hb=>zAS (q8 b hb) k.1⟩
theorem zXv {H:zAw}:zAz prg zKT [] H λu H'=>u=Ptr H.size 0/\zPN (· = H.size) H.size [] H'/\Keep zAM H H':=by
 apply zPA
 unfold zPz
 have e:zCV prg zQG []=some (.agg #[.slice none 0 0]):=by kernel_rfl
 rw[e,zAa]
 simp only[zB1,zBa]
 exact⟨by trivial,⟨λ_=>False,λ_=>False,.slice none 0 0,[],rfl,At.push,BufE.nil,λx h=>(by cases h),λb h=>h.elim,λb h=>h.elim,rfl,λb hb=>by subst hb;simp⟩,Keep.push⟩
theorem zRF {R:zA2}{p:Nat}{l:List Pk}{H:zAw}(q:zPN R p l H):zAz prg zHH [Ptr p 0] H λu H'=>u = .int .i64 (l.length:Nat)/\H=H':=by
 apply zO5
 unfold zOP
 obtain⟨F,P,u,pv,q1,q2,q3,_⟩:=q
 have nck1:∀ b,nck (Ptr b 0)=some (Ptr b 0):=λ_=>rfl
 have hl:=q3.sl.len
 rw[zAf]at hl
 simp only[nck1,zBf,zAg,zAa]
 rw[q2.ld (i:=0) rfl,zAa,hl,zAa]
 exact⟨by rw[<- q1,zAf],by trivial⟩
theorem zAgP {h:zAw}{q:Nat}{x:PW}(a:At h q (pvC x))(w:x.1.1.wf):ldN 4 h (Ptr q 1)=some (.agg (zED x.1.1.ver).toArray):=by
 have e:pvC x=[str x.1.1.name]++zED x.1.1.ver++[x.1.2.1,x.1.2.2.1,x.1.2.2.2,x.2.1]:=by simp[pvC,mvC,zGI]
 rw[e]at a
 obtain⟨T,a⟩:=a
 exact ldN_mid a rfl (zDL w.ver).symm
theorem zAgQ {h:zAw}{b o:Nat}{x:PW}(a:Pt h b o (pvC x))(w:x.1.1.wf):ldN 8 h (Ptr b o)=some (.agg (mvC x.1).toArray) :=
 (Pt.mid (A:=[]) (B:=mvC x.1) (C:=[x.2.1]) (o:=o) (o':=o) (by simpa [pvC] using a) rfl).agg (zBK w)
theorem zZ3 {R:zA2}{p:Nat}{l:List Pk}{H:zAw}{nm:List UInt8}{v:Ver}(q:zPN R p l H)(hv:v.wf)(hl:l.length<=1000):zAz prg zKU [Ptr p 0,str nm,.agg (zED v).toArray] H λu H'=>u = .int .i64 (zUw (zKo nm v) l 0)/\Keep zAM H H':=by
 apply zPC
 unfold zPB
 have ec:Value.cells (str nm)=[str nm].toArray:=rfl
 have nck1:∀ b,nck (Ptr b 0)=some (Ptr b 0):=λ_=>rfl
 simp only[ec,zB1,zBa,nck1,zBf,zAg,zAa]
 generalize hH1:H.push (.cells [str nm].toArray zBd (0,0))=H1
 have k1:Keep zAM H H1:=by rw[<- hH1];exact Keep.push
 have a1:At H1 H.size [str nm]:=by rw[<- hH1];exact At.push
 generalize hH2:H1.push (.cells (zED v).toArray zAU (0,0))=H2
 have k2:Keep zAM H1 H2:=by rw[<- hH2];exact Keep.push
 have a2:At H2 H1.size (zED v):=by rw[<- hH2];exact At.push
 have k02:=k1.trans k2
 obtain⟨F,P,u,pv,q1,q2,q3,q4,_⟩:=q.keep k02 λ_ _=>id
 have hpl:pv.length<=1000:=by rw[<- q1,zAf]at hl;exact hl
 rw[q2.ld (i:=0) rfl,zAa]
 refine zAJ (zDz (zYI (enc:=pvC) (del:=λx:PW=>zKo nm v (zLR x)) (G:=λh=>At h H.size [str nm]/\At h H1.size (zED v)) q3.sl (λx h hx hG=>?_) (λh k=>⟨(a1.keep k2 id).keep k id,a2.keep k id⟩) (by omega))) λu h ⟨e,k⟩=>⟨by rw[e,<- q1,zZ1],k02.trans k⟩
 refine .inl ⟨zIO,#[],#[Ptr H.size 0,Ptr H1.size 0],rfl,by kernel_rfl,?_⟩
 show zAz prg zIO [.agg (pvC x).toArray,Ptr H.size 0,Ptr H1.size 0] h _
 apply zOu
 unfold zN6
 simp only[zB1,zBa,zBf,zAg,zAu,zAa]
 have w:=(q4 x hx).m.wf
 generalize hh2:h.push (.cells (pvC x).toArray zA5 (0,0))=h2
 have kp:Keep zAM h h2:=by rw[<- hh2];exact Keep.push
 have a3:At h2 h.size (pvC x):=by rw[<- hh2];exact At.push
 have d0:ld1 h2 (Ptr h.size 0)=some (str x.1.1.name):=a3.ld rfl
 rw[d0,zAa,(hG.1.keep kp id).ld (i:=0) rfl,zAa,zDG,zAa]
 have es:zKo nm v (zLR x)=(decide (x.1.1.name=nm)&&decide (x.1.1.ver=v)):=rfl
 cases h1:decide (x.1.1.name=nm)
 ·refine zLF (by decide) ?_
  show Mpu (zBH (.bool false) undef (.bool false)) _
  rw[zAv,if_neg (by decide),zAa]
  exact⟨by rw[es,h1];rfl,kp⟩
 ·refine zDS rfl ?_
  rw[zAgP a3 w,zAa,(hG.2.keep kp id).ldN (zDL hv),zAa,zAe1 w.ver hv,zAa]
  show Mpu (zBH (.bool true) (.bool (decide (x.1.1.ver=v))) (.bool false)) _
  rw[zAv,if_pos rfl,zAa]
  exact⟨by rw[es,h1];simp,kp⟩
theorem zQy:zPW.1.1.wf:=zOD
theorem zAiw:∀ c∈pvC zPW,c.oneCell'=true:=by decide +kernel
theorem zAkn:zCV prg zA5 []=some (.agg (pvC zPW).toArray):=by kernel_rfl
theorem zAko {R:zA2}{p:Nat}{l:List Pk}{H:zAw}{nm:List UInt8}{v:Ver}(q:zPN R p l H)(hv:v.wf)(hl:l.length<=1000):zAz prg zLm [Ptr p 0,str nm,.agg (zED v).toArray] H λu H' =>
  ((l.find? (zKo nm v)=none/\u = .tuple #[.agg (pvC zPW).toArray,.bool false])\/∃ x':PW,l.find? (zKo nm v)=some (zLR x')/\u = .tuple #[.agg (pvC x').toArray,.bool true]/\PkV (λb=>H.size<=b/\b<H'.size) H' x')/\Keep zAM H H':=by
 apply zOr
 unfold zN2
 have nck1:∀ b,nck (Ptr b 0)=some (Ptr b 0):=λ_=>rfl
 simp only[zB1,zAaY,zAkn,zBa,nck1,zBf,zAg,zAa]
 generalize hH1:H.push (.cells (zED v).toArray zAU (0,0))=H1
 have k1:Keep zAM H H1:=by rw[<- hH1];exact Keep.push
 have a1:At H1 H.size (zED v):=by rw[<- hH1];exact At.push
 generalize hH2:H1.push (.cells (pvC zPW).toArray zA5 (0,0))=H2
 have k2:Keep zAM H1 H2:=by rw[<- hH2];exact Keep.push
 have a2:At H2 H1.size (pvC zPW):=by rw[<- hH2];exact At.push
 have g1:=k1.1
 have g2:=k2.1
 have k02:=k1.trans k2
 have q2:=q.keep k02 λ_ _=>id
 rw[(a1.keep k2 id).ldN (zDL hv),zAa]
 refine zAJ (zZ3 q2 hv hl) ?_
 rintro _ h3 ⟨rfl,k3⟩
 have k03:=k02.trans k3
 have g3:=k3.1
 have a3:=a2.keep k3 id
 rw[ltI,zAa,zAl]
 rcases zRE (p:=zKo nm v) (l:=l) with ⟨e1,e2⟩|⟨i,y,e1,e2,e3⟩
 ·rw[e1,if_pos (by decide)]
  obtain⟨h4,st4,a4,k4⟩:=a3.st (n:=9) (ds:=pvC zPW) (zDX zQy) (zDX zQy) zAiw
  rw[st4,zAV,a4.ldN (zDX zQy),zAa]
  exact⟨.inl ⟨e2,rfl⟩,k03.fresh k4 λb hb=>by omega⟩
 ·rw[e1,if_neg (by simp)]
  obtain⟨F,P,u,pv,q1,q2,q3,q4,_⟩:=q2.keep k3 λ_ _=>id
  rw[<- q1,zAp]at e2
  obtain⟨x,hx,rfl⟩:=zBy.1 e2
  have hxm:=q4 x (zAB hx)
  obtain⟨b,o,hix,hpt,_⟩:=q3.sl.at (i:=i) (x:=pvC x) (by rw[zAp,hx];rfl)
  rw[q2.ld (i:=0) rfl,zAa,hix .i64,zAa,hpt.agg (zDX hxm.m.wf),zAa]
  refine zAJ (zZ0 hxm) ?_
  rintro _ h6 ⟨⟨x',rfl,hpk,hx'⟩,k6⟩
  have g6:=k6.1
  obtain⟨h7,st7,a7,k7⟩:=(a3.keep k6 id).st (n:=9) (ds:=pvC x') (zDX zQy) (zDX hx'.m.wf) hx'.one
  have g7:=k7.1
  have g17:=a2.lt
  rw[st7,zAV,a7.ldN (zDX hx'.m.wf),zAa]
  exact⟨.inr ⟨x',by rw[e3,hpk],rfl,(hx'.keep k7 λb hb=>by omega).mono λb hb=>by omega⟩,(k03.trans k6).fresh k7 λb hb=>by omega⟩
structure zAfB (P:zA2)(H:zAw)(x:PW):Prop where
 m:zMf P H x.1.1 x.1.2.1 x.1.2.2.1 x.1.2.2.2
 f:BSS P P H x.2.1 x.2.2
 sd:x.1.1.deps.length<=1000
 sc:x.1.1.conf.length<=1000
 sf:x.1.1.files.length<=1000
theorem zAfB.keep {P S:zA2}{H H':zAw}{x:PW}(h:zAfB P H x)(k:Keep S H H')(hs:∀ b,P b->¬ S b):zAfB P H' x:=⟨h.m.keep k hs,h.f.keep k hs hs,h.sd,h.sc,h.sf⟩
theorem zAfB.one {P:zA2}{H:zAw}{x:PW}(h:zAfB P H x):∀ c∈pvC x,c.oneCell'=true:=λc hc=>by
 rcases zAt.1 hc with hc|hc
 ·exact zG1 (x:=x.1) h.m c hc
 ·rw[zAF.1 hc];exact h.f.sl.oneC
theorem zUj {m:Man}(h:zFO m=true):∀ f∈m.files,f.size<=1048576:=by
 unfold zFO zPL at h
 simp only[zAk,decide_eq_true_eq]at h
 obtain⟨_,_,h3⟩:=h
 intro f hf
 obtain⟨i,hi,rfl⟩:=zBx hf
 have:=zAy.1 h3 i (zBZ.2 hi)
 unfold zJY at this
 rw[zUa (zAj hi)]at this
 simp only[zAk,zBz,decide_eq_false_iff_not]at this
 have:=this.1.2
 omega
theorem zVm:∀ {fs:List zHl} {bs:List (List UInt8)},zGe fs bs=true->(∀ f∈fs,f.size<=1048576)->bs.length=fs.length/\∀ b∈bs,b.length<=1048576
 | [],[],_,_=>⟨rfl,λb h=>by cases h⟩
 | [],_::_,h,_=>by cases h
 | _::_,[],h,_=>by cases h
 | f::fs,b::bs,h,hs=>by
  rw[zGe,zAk]at h
  obtain⟨h1,h2⟩:=zVm h.2 λf hf=>hs f (by simp[hf])
  have h3:=h.1
  unfold zW8 at h3
  simp only[zAk,decide_eq_true_eq]at h3
  have h4:=hs f (by simp)
  refine⟨by simp[h1],λc hc=>?_⟩
  rcases zAr.1 hc with rfl|hc
  ·omega
  ·exact h2 c hc
theorem zYM {x:PW}(h:(pvC x).length=9):zGf prg zA5 1 [(0,.agg (pvC x).toArray)]=some (pvC x).toArray :=
 zVN (by kernel_rfl:prg.cellsOf zA5=9) (by omega) (by omega) zAaY (zDX zQy) (by simp[h])
set_option maxHeartbeats 1000000 in
theorem zAix {R P:zA2}{p:Nat}{l:List Pk}{H:zAw}{x:PW}(q:zPN R p l H)(hx:zAfB P H x)(hP:∀ b,P b->b<H.size)(hl:l.length<=256)(hO:zQR H)(hS:zTa H) :
  zAz prg zHG [Ptr p 0,.agg (pvC x).toArray] H λu H'=>u = .int .i64 (zAaZ l (zLR x))/\(∃ R',zPN R' p (zS0 l (zLR x)) H'/\∀ b,R' b->R b\/(H.size<=b/\b<H'.size))/\Keep R H H':=by
 apply zO4
 unfold zOO
 have nck1:∀ b,nck (Ptr b 0)=some (Ptr b 0):=λ_=>rfl
 simp only[zB1,zMS,zBa,nck1,zBf,zAg,zAu,zAa]
 generalize hH1:H.push (.cells (pvC x).toArray zA5 (0,0))=H1
 have k1:Keep zAM H H1:=by rw[<- hH1];exact Keep.push
 have a1:At H1 H.size (pvC x):=by rw[<- hH1];exact At.push
 have s1:H1.size=H.size+1:=by rw[<- hH1];simp
 have w:=hx.m.wf
 rw[a1.ldPre (A:=mvC x.1) (zBK w),zAa]
 generalize hH2:H1.push (.cells (zGI ⟨[],zEQ,[],[],[]⟩ zCq zCq zCq).toArray zAi (0,0))=H2
 have k2:Keep zAM H1 H2:=by rw[<- hH2];exact Keep.push
 have a2:At H2 H1.size (zGI ⟨[],zEQ,[],[],[]⟩ zCq zCq zCq):=by rw[<- hH2];exact At.push
 have hone:∀ c∈mvC x.1,c.oneCell'=true:=zG1 (x:=x.1) hx.m
 obtain⟨h3,st3,a3,k3⟩:=a2.st (n:=8) (ds:=mvC x.1) (zBK zOD) (zBK w) hone
 have g2:=k2.1
 have k03:Keep zAM H h3:=(k1.trans k2).fresh k3 λb hb=>by omega
 have a13:=(a1.keep k2 id).keep k3 (by omega)
 rw[st3,zAV,a3.ldN (zBK w),zAa]
 have mono:∀ {h:zAw},Keep zAM H h->Keep R H h:=λk=>k.mono λ_ _ h=>h.elim
 have same:∀ {h:zAw} {e:Int},Keep zAM H h->zAaZ l (zLR x)=e->zS0 l (zLR x)=l->(Value.int .i64 e = .int .i64 (zAaZ l (zLR x))/\(∃ R',zPN R' p (zS0 l (zLR x)) h/\∀ b,R' b->R b\/(H.size<=b/\b<h.size))/\Keep R H h):=λk e1 e2=>⟨by rw[e1],⟨R,by rw[e2];exact q.keep k λ_ _=>id,λb hb => .inl hb⟩,mono k⟩
 have hsd:=hx.sd
 have hsc:=hx.sc
 refine zAJ (zTe (vd:=x.1.2.1) (vc:=x.1.2.2.1) (vf:=x.1.2.2.2) (hx.m.keep k03 λ_ _=>id) (by omega) (by omega) (hO.keep k03 λ_ h=>h.elim)) ?_
 rintro _ h4 ⟨rfl,k4⟩
 have k04:=k03.trans k4
 have a34:=a3.keep k4 id
 have a14:=a13.keep k4 id
 rw[zA8,zAa]
 have hpo:zYL (zLR x)=(zFO x.1.1&&zGe x.1.1.files (x.2.2.map (·.2))):=rfl
 have bad:zYL (zLR x)=false->zAaZ l (zLR x)=10/\zS0 l (zLR x)=l:=λe=>⟨by unfold zAaZ;rw[if_pos e],by unfold zS0;rw[if_pos e]⟩
 cases hok:zFO x.1.1
 ·refine zLF (by decide) ?_
  show Mpu (zBH (.bool true) (.bool true) undef) _
  rw[zAv,if_pos rfl,zAa,zAl,if_pos rfl]
  have:=bad (by rw[hpo,hok];rfl)
  exact same k04 this.1 this.2
 refine zDS rfl ?_
 have hsz:=zUj hok
 obtain⟨f1,_,_⟩:=zMT hok
 have hx4:=hx.keep k04 λ_ _=>id
 have g04:=k04.1
 rw[a34.ldN (zBK w),zAa,a14.ld (i:=8) (zUh w),zAa]
 refine zAJ (zAh1 (vd:=x.1.2.1) (vc:=x.1.2.2.1) (vf:=x.1.2.2.2) hx4.m hx4.f (λb hb=>by have:=hP b hb;omega) (λe=>by omega) (λi y f h1 h2 h3=>by have:=hsz f (zAB h2);omega) (hS.keep k04 λ_ h=>h.elim)) ?_
 rintro _ h6 ⟨rfl,k6⟩
 have k06:=k04.trans k6
 have a36:=a34.keep k6 id
 have a16:=a14.keep k6 id
 rw[zA8,zAa]
 show Mpu (zBH (.bool false) (.bool true) (.bool (!zGe x.1.1.files (x.2.2.map (·.2))))) _
 rw[zAv,if_neg (by decide),zAa,zAl]
 cases hft:zGe x.1.1.files (x.2.2.map (·.2))
 ·rw[if_pos (by rfl)]
  have:=bad (by rw[hpo,hok,hft];rfl)
  exact same k06 this.1 this.2
 have hpk:zYL (zLR x)=true:=by rw[hpo,hok,hft];rfl
 obtain⟨z1,z2⟩:=zVm hft hsz
 rw[zAf]at z1
 have hxk:PkV P h6 x:=⟨(hx.keep k06 λ_ _=>id).m,(hx.keep k06 λ_ _=>id).f,hx.sd,hx.sc,hx.sf,by omega,λy hy=>z2 y.2 (zAo.2 ⟨y,hy,rfl⟩)⟩
 have q6:=q.keep k06 λ_ _=>id
 rw[if_neg (by decide),zDd a36,zAa,zI7 a36 w,zAa]
 refine zAJ (zZ3 q6 w.ver (by omega)) ?_
 rintro _ h8 ⟨rfl,k8⟩
 have k08:=k06.trans k8
 have a38:=a36.keep k8 id
 have a18:=a16.keep k8 id
 have q8:=q6.keep k8 λ_ _=>id
 have hPE:zAaZ l (zLR x)=match l.find? (zKo x.1.1.name x.1.1.ver) with
   | some y=>if zUe y.1 x.1.1 then 0 else 44
   | none=>if l.length=256 then 12 else 0:=by unfold zAaZ;rw[if_neg (by rw[hpk];decide)];rfl
 have hPL:zS0 l (zLR x)=match l.find? (zKo x.1.1.name x.1.1.ver) with
   | some _=>l
   | none=>if l.length=256 then l else l++[zLR x]:=by unfold zS0;rw[if_neg (by rw[hpk];decide)];rfl
 have q8':=q8
 obtain⟨F,P',u,pv,q1,q2,q3,q4,q5,q6',q7,q9⟩:=q8
 have hpl:pv.length=l.length:=by rw[<- q1,zAf]
 rw[geI,zAa,zAl]
 rcases zRE (p:=zKo x.1.1.name x.1.1.ver) (l:=l) with ⟨e1,e2⟩|⟨i,y,e1,e2,e3⟩
 rotate_left
 ·rw[e1,if_pos (by simp)]
  rw[e3]at hPE hPL
  have e2':=e2
  rw[<- q1,zAp]at e2
  obtain⟨z,hz,rfl⟩:=zBy.1 e2
  have hzm:=q4 z (zAB hz)
  obtain⟨b,o,hix,hpt,_⟩:=q3.sl.at (i:=i) (x:=pvC z) (by rw[zAp,hz];rfl)
  rw[q2.ld (i:=0) rfl,zAa,hix .i64,zAa,zBf,zAa,zAu,zAgQ hpt hzm.m.wf,zAa,a38.ldN (zBK w),zAa]
  have h1:=hzm.sd
  have h2:=hzm.sc
  have h3:=hzm.sf
  refine zAJ (zVl (x:=z.1) (y:=x.1) hzm.m (hxk.m.keep k8 λ_ _=>id) (by omega) (by omega) (by omega)) ?_
  rintro _ h9 ⟨rfl,k9⟩
  rw[zA8,zAa,zAl]
  have hme:(zLR z).1=z.1.1:=rfl
  cases hq:zUe z.1.1 x.1.1
  ·rw[if_pos (by rfl)]
   exact same (k08.trans k9) (by rw[hPE];show(if zUe z.1.1 x.1.1=true then 0 else 44)=_;rw[hq];rfl) hPL
  ·rw[if_neg (by decide)]
   exact same (k08.trans k9) (by rw[hPE];show(if zUe z.1.1 x.1.1=true then 0 else 44)=_;rw[hq];rfl) hPL
 rw[e1,if_neg (by decide)]
 rw[e2]at hPE hPL
 have hlen:=q3.sl.len
 rw[zAf,hpl]at hlen
 have e256:zAC .no .eql (.int .i64 (l.length:Nat)) (.int .i64 256)=some (.bool (decide (l.length=256))):=zAi4 (m:=256)
 rw[q2.ld (i:=0) rfl,zAa,hlen,zAa,e256,zAa,zAl]
 by_cases h256:l.length=256
 ·rw[if_pos (by simpa using h256)]
  exact same k08 (by rw[hPE];exact if_pos h256) (by rw[hPL];exact if_pos h256)
 rw[if_neg (by simpa using h256),zAa,a18.ldN (zDX w),zAa]
 refine zAJ (zZ0 (hxk.keep k8 λ_ _=>id)) ?_
 rintro _ h10 ⟨⟨x',rfl,hpk',hx'⟩,k10⟩
 have g10:=k10.1
 rw[(q2.keep k10 id).ld (i:=0) rfl,zBq,zA9,zYM (zDX hx'.m.wf),zCh]
 generalize hH11:h10.push (.cells (pvC x').toArray zA5 (0,0))=h11
 have k11:Keep zAM h10 h11:=by rw[<- hH11];exact Keep.push
 have g11:h11.size=h10.size+1:=by rw[<- hH11];simp
 rw[((q2.keep k10 id).keep k11 id).ld (i:=0) rfl,zBq,zA9]
 have hx11:SlE 9 (· = h10.size) h11 (.slice (some ⟨h10.size,0,none⟩) 1 1) [pvC x']:=⟨⟨_,1,rfl,zAh _,.inr ⟨h10.size,0,rfl,rfl,by
  show Pt h11 h10.size 0 [pvC x'].flatten
  rw[<- hH11,show [pvC x'].flatten=pvC x' by simp];exact Pt.of zCa⟩⟩,λy hy=>by rw[zAF.1 hy];exact zDX hx'.m.wf,λy hy=>by rw[zAF.1 hy];exact hx'.one⟩
 have k811:=k10.trans k11
 have k011:=k08.trans k811
 have g811:=k811.1
 have g08:=k08.1
 refine((q3.keep k811 λ_ _=>id).mono (G:=λb=>F b\/h11.size<=b) λb hb => .inl hb).app hx11 (by omega) (by rw[zAf,zBe];omega) (.inr (zAh _)) λt h12 b12 k12=>?_
 have g12:=k12.1
 have hpn:¬ (F p\/h11.size<=p):=λhh=>hh.elim (λh=>(q5 p h).2.1 rfl) λh=>by have:=q9 p q7;omega
 obtain⟨h13,st13,a13',k13⟩:=(((q2.keep k10 id).keep k11 id).keep k12 hpn).st1 (i:=0) (v:=t) (by simp) b12.sl.oneC
 rw[st13,zAV]
 have g13:=k13.1
 have hP13:∀ {b},(P' b\/(h8.size<=b/\b<h10.size))->¬ (F b\/h11.size<=b)/\b≠p:=λ{b} hb=>by
  rcases hb with hb|hb
  ·have h1:=q6' b hb
   have h2:=q9 b h1.1
   exact⟨λhh=>hh.elim (λh=>(q5 b h).2.2 hb) λh=>by omega,h1.2⟩
  ·exact⟨λhh=>hh.elim (λh=>by have:=q9 b (q5 b h).1;omega) λh=>by omega,λe=>by have:=q9 p q7;omega⟩
 refine⟨by rw[hPE];exact congrArg _ (if_neg h256).symm,⟨λb=>R b\/(h8.size<=b/\b<h13.size),⟨λb=>(F b\/h11.size<=b)/\b<h12.size,λb=>P' b\/(h8.size<=b/\b<h10.size),t,pv++[x'],?_,a13',?_,?_,?_,?_,.inl q7,?_⟩,λb hb=>hb.imp id λh=>by omega⟩,?_⟩
 ·rw[hPL,zAE,q1,if_neg h256]
  simp[hpk']
 ·have e:(pv++[x']).map pvC=pv.map pvC++[pvC x']:=by simp
  rw[e]
  exact(BufE.re b12 λb hb hF=>⟨hF,hb⟩).keep k13 λb hb e=>hpn (e ▸ hb.1)
 ·intro z hz
  rcases zAt.1 hz with hz|hz
  ·exact((((q4 z hz).keep k811 λ_ _=>id).mono (Q:=λb=>P' b\/(h8.size<=b/\b<h10.size)) λb hb => .inl hb).keep k12 λb hb=>(hP13 hb).1).keep k13 λb hb=>(hP13 hb).2
  ·rw[zAF.1 hz]
   exact(((hx'.keep k11 λ_ _=>id).mono (Q:=λb=>P' b\/(h8.size<=b/\b<h10.size)) λb hb => .inr hb).keep k12 λb hb=>(hP13 hb).1).keep k13 λb hb=>(hP13 hb).2
 ·intro b hb
  refine⟨hb.1.elim (λh => .inl (q5 b h).1) λh => .inr (by have:=hb.2;omega),λe=>hpn (e ▸ hb.1),λhh=>(hP13 hh).1 hb.1⟩
 ·intro b hb
  exact⟨hb.elim (λh => .inl (q6' b h).1) λh => .inr (by omega),(hP13 hb).2⟩
 ·intro b hb
  rcases hb with hb|hb
  ·have:=q9 b hb;omega
  ·exact hb.2
 ·refine((mono k011).fresh' k12 λb hb=>?_).trans (k13.mono λb _ e=>by rw[e];exact q7)
  rcases hb with h|h
  ·exact .inl (q5 b h).1
  ·exact .inr (by omega)
def zYN (inst:List Man)(m:Man):Bool:=match inst.find? (λo=>decide (o.name=m.name)) with
 | none=>true
 | some o=>!decide (o.ver=m.ver)
def zEO (inst:List Man)(l:List Pk):List Man:=inst++(l.map (·.1)).filter (zYN inst)
theorem zRG {α β:Type}{p:β->Bool}{g:α->β}:∀ {l:List α},(l.map g).find? p=(l.find? λx=>p (g x)).map g
 | []=>rfl
 | x::l=>by
  rw[zAW,List.find?_cons,List.find?_cons,zRG (l:=l)]
  cases p (g x)<;>rfl
theorem zHY {α:Type}{l:List α}{i:Nat}{x:α}{p:α->Bool}(h:l[i]? = some x):(l.take (i+1)).filter p=(l.take i).filter p++(if p x then [x] else []):=by
 rw[zAI,h,List.filter_append]
 cases hp:p x<;>simp[hp]
theorem zSs {x:MV}(h:(mvC x).length=8):zGf prg zAi 1 [(0,.agg (mvC x).toArray)]=some (mvC x).toArray :=
 zVN (by kernel_rfl:prg.cellsOf zAi=8) (by omega) (by omega) zMS (zBK zOD) (by simp[h])
theorem zOG {n:Nat}{T:TypeId}{h:zAw}{x:List Value}(hx:x.length=n)(h1:∀ c∈x,c.oneCell'=true):SlE n (· = h.size) (h.push (.cells x.toArray T (0,0))) (.slice (some ⟨h.size,0,none⟩) 1 1) [x] :=
 ⟨⟨_,1,rfl,zAh _,.inr ⟨h.size,0,rfl,rfl,by
  rw[show [x].flatten=x by simp];exact Pt.of zCa⟩⟩,λy hy=>by rw[zAF.1 hy];exact hx,λy hy=>by rw[zAF.1 hy];exact h1⟩
set_option maxHeartbeats 1000000 in
theorem zAdB {P R:zA2}{p:Nat}{l:List Pk}{H:zAw}{v:Value}{mv:List MV}(hp:zNM P H v mv)(q:zPN R p l H)(hl:mv.length<=1000)(hll:l.length<=1000) :
  zAz prg zNd [v,Ptr p 0] H λu H'=>(∃ mv',zBR mv'=zEO (zBR mv) l/\zNM (λb=>P b\/R b\/(H.size<=b/\b<H'.size)) H' u mv')/\Keep zAM H H':=by
 apply zQK
 unfold zRm
 have nck1:∀ b,nck (Ptr b 0)=some (Ptr b 0):=λ_=>rfl
 refine zAJ (zVk hp.h (by rw[zAf];omega)) ?_
 rintro t10 h1 ⟨b1,k1⟩
 have g1:=k1.1
 obtain⟨F,P',u,pv,q1,q2,q3,q4,q5,q6,q7,q9⟩:=q
 have hpl:pv.length=l.length:=by rw[<- q1,zAf]
 have hR:∀ b,P' b->R b:=λb hb=>(q6 b hb).1
 have hlen:=q3.sl.len
 rw[zAf,hpl]at hlen
 let I:Nat->zAn:=λi w h=>∃ ys:List MV,BufE 8 (λb=>H.size<=b/\b<h.size) h w ((mv++ys).map mvC)/\ys.length<=i/\(∀ y∈ys,(∃ x∈pv,x.1=y))/\zBR ys=((l.take i).map (·.1)).filter (zYN (zBR mv))/\Keep zAM H h
 refine zMh (λw _ h=>I l.length w h) (λk2 hk2=>?_) ?_
 rotate_left
 ·rintro w _ h ⟨ys,by',hyl,hy,he,kh⟩
  rw[zAs (zAh _)]at he
  refine⟨⟨mv++ys,by unfold zEO;rw[<- he];simp[zBR],by'.sl.mono λb hb => .inr (.inr hb),λx hx=>?_,λx hx=>?_⟩,kh⟩
  ·rcases zAt.1 hx with hx|hx
   ·exact((hp.m x hx).keep kh λ_ _=>id).mono λb hb => .inl hb
   ·obtain⟨z,hz,rfl⟩:=hy x hx
    exact((q4 z hz).m.keep kh λ_ _=>id).mono λb hb => .inr (.inl (hR b hb))
  ·rcases zAt.1 hx with hx|hx
   ·exact hp.sm x hx
   ·obtain⟨z,hz,rfl⟩:=hy x hx
    exact⟨(q4 z hz).sd,(q4 z hz).sc⟩
 simp only[nck1,zBf,zAg,zAu,zAa]
 rw[(q2.keep k1 id).ld (i:=0) rfl,zAa,hlen,zAa]
 refine zUv (λw z h=>∃ i:Nat,i<=l.length/\z = .int .i64 (i:Nat)/\I i w h) (λ_ z _=>match z with | .int _ t=>l.length-t.toNat|_=>0) ⟨0,zAA _,rfl,[],by rw[zAN];exact b1,zAh _,λy hy=>(by cases hy),rfl,k1⟩ ?_
 rintro t5 _ h5 ⟨i,hi,rfl,ys,b5,hyl,hy,he,k5⟩ k4 hk4
 have g5:=k5.1
 rw[zOC,zAa,zAl]
 by_cases hlt:i<l.length
 rotate_left
 ·rw[if_neg (by simpa using hlt)]
  obtain rfl:i=l.length:=by omega
  exact hk2 _ _ _ ⟨ys,b5,hyl,hy,he,k5⟩
 rw[if_pos (by simpa using hlt)]
 have hg:pv[i]? = some (pv[i]'(by omega)):=zAj (by omega)
 have hm:=zAG (show i<pv.length by omega)
 generalize pv[i]'(by omega)=x at *
 have hgl:l[i]? = some (zLR x):=by rw[<- q1,zAp,hg];rfl
 have hgm:(l.map (·.1))[i]? = some x.1.1:=by rw[zAp,hgl];rfl
 have hx5:=(q4 x hm).keep k5 λ_ _=>id
 have w:=hx5.m.wf
 obtain⟨b,o,hix,hpt,_⟩:=(q3.keep k5 λ_ _=>id).sl.at (i:=i) (x:=pvC x) (by rw[zAp,hg];rfl)
 refine zMh (λw _ h=>I (i+1) w h) (λk6 hk6=>?_) ?_
 rotate_left
 ·rintro w' _ h7 hI
  rw[zBV (by omega),zAa]
  exact hk4 _ _ _ ⟨i+1,by omega,rfl,hI⟩ (by show l.length-(i+1)<l.length-i;omega)
 rw[hix .i64,zAa,hpt.agg (zDX w),zAa]
 simp only[zAaY,zBa,zBf,zAg,zAu,zAa]
 generalize hH8:h5.push (.cells (pvC zPW).toArray zA5 (0,0))=h8
 have k8:Keep zAM h5 h8:=by rw[<- hH8];exact Keep.push
 have a8:At h8 h5.size (pvC zPW):=by rw[<- hH8];exact At.push
 obtain⟨h9,st9,a9,k9⟩:=a8.st (n:=9) (ds:=pvC x) (zDX zQy) (zDX w) hx5.one
 have k59:Keep zAM h5 h9:=k8.fresh k9 λb hb=>by omega
 have d0:ld1 h9 (Ptr h5.size 0)=some (str x.1.1.name):=a9.ld rfl
 rw[st9,zAV,d0,zAa]
 refine zAJ (zAdx (hp.keep (k5.trans k59) λ_ _=>id) (by omega)) ?_
 rintro _ h10 ⟨rfl,k10⟩
 have k510:=k59.trans k10
 have k010:=k5.trans k510
 have a10:=a9.keep k10 id
 have g510:=k510.1
 have hfm:(zBR mv).find? (λo=>decide (o.name=x.1.1.name))=(mv.find? λo:MV=>decide (o.1.name=x.1.1.name)).map (·.1):=zRG
 have no:zYN (zBR mv) x.1.1=false->∀ h',Keep zAM h10 h'->I (i+1) t5 h':=λhf h' k'=>⟨ys,(b5.keep (k510.trans k') λ_ _=>id).mono λb hb=>by have:=k'.1;omega,by omega,hy,by rw[zCw,zHY hgm,hf,<- zCw,<- he];simp,k010.trans k'⟩
 have yes:zYN (zBR mv) x.1.1=true->∀ h' w2,Keep zAM h10 h'->Mpu (ldN 8 h' (Ptr h5.size 0)) λt40=>zD1 h' zAi 1 (zGf prg zAi 1 [(0,t40)]) λt41 h13=>zIU zAi 8 128 h13 t5 t41 λt42 h14=>k6 t42 w2 h14:=λhf h' w2 k'=>by
  have a':=a10.keep k' id
  rw[a'.ldPre (A:=mvC x.1) (zBK w),zAa,zSs (zBK w),zCh]
  have hr:=zOG (T:=zAi) (h:=h') (n:=8) (zBK w:(mvC x.1).length=8) (zG1 (x:=x.1) hx5.m)
  have kp:Keep zAM h' (h'.push (.cells (mvC x.1).toArray zAi (0,0))):=Keep.push
  have gp:=kp.1
  have g':=k'.1
  have k0p:=(k510.trans k').trans kp
  refine((b5.keep k0p λ_ _=>id).mono (G:=λb=>H.size<=b) λb hb=>hb.1).app hr (by omega) (by rw[zAf,zAq,zBe];omega) (by show H.size<=_;omega) λt h14 b14 k14=>?_
  refine hk6 _ _ _ ⟨ys++[x.1],?_,by rw[zAq,zBe];omega,λy hy'=>?_,?_,((k010.trans k').trans kp).fresh k14 λb hb=>hb⟩
  ·have e:(mv++(ys++[x.1])).map mvC=(mv++ys).map mvC++[mvC x.1]:=by simp
   rw[e]
   exact BufE.re b14 λb hb hF=>⟨hF,hb⟩
  ·rcases zAt.1 hy' with hy'|hy'
   ·exact hy y hy'
   ·rw[zAF.1 hy'];exact⟨x,hm,rfl⟩
  ·rw[zCw,zHY hgm,hf,<- zCw,<- he];simp[zBR]
 rw[ltI,zAa]
 rcases zRE (p:=λo:MV=>decide (o.1.name=x.1.1.name)) (l:=mv) with ⟨e1,e2⟩|⟨j,y,e1,e2,e3⟩
 ·have hout:zYN (zBR mv) x.1.1=true:=by unfold zYN;rw[hfm,e2];rfl
  rw[e1]
  refine zLF (by decide) ?_
  show Mpu (zBH (.bool true) (.bool true) undef) _
  rw[zAv,if_pos rfl,zAa,zAl,if_pos rfl]
  exact yes hout h10 _ Keep.refl
 ·have hout:zYN (zBR mv) x.1.1 = !decide (y.1.ver=x.1.1.ver):=by unfold zYN;rw[hfm,e3];rfl
  rw[e1,decide_eq_false (by omega)]
  refine zDS rfl ?_
  obtain⟨hmy,b',o',hix',hpt',_⟩:=(hp.keep k010 λ_ _=>id).at e2
  rw[hix' .i64,zAa,zBf,zAa,zXf hpt' hmy.wf,zAa,zAgP a10 w,zAa,zAlp hmy.wf.ver w.ver,zAa]
  show Mpu (zBH (.bool false) (.bool true) (.bool (!decide (y.1.ver=x.1.1.ver)))) _
  rw[zAv,if_neg (by decide),zAa,zAl]
  cases hq:decide (y.1.ver=x.1.1.ver)
  ·rw[if_pos (by rfl)]
   exact yes (by rw[hout,hq];rfl) h10 _ Keep.refl
  ·rw[if_neg (by decide)]
   exact hk6 _ _ _ (no (by rw[hout,hq];rfl) h10 Keep.refl)
def zLH (inst:List Man)(nm:List UInt8):List Dep:=(inst.filter λm=>!decide (m.name=nm)).map λm=>⟨m.name,⟨[61],m.ver⟩⟩
theorem zAdC {op:List UInt8}{x:Ver}(hx:x.wf):zCV prg zBL [(0,str op),(1,.agg (zED x).toArray)]=some (.agg (zFf ⟨op,x⟩).toArray):=by
 obtain⟨a,b,c,e⟩:=Ver.cases3 hx
 obtain⟨p,pre⟩:=x
 simp only at e
 subst e
 rw[zIv zAgp];rfl
theorem zTg {d:Dep}(hd:d.wf):zGf prg zAL 1 [(0,.agg (zFl d).toArray)]=some (zFl d).toArray :=
 zVN (by kernel_rfl:prg.cellsOf zAL=6) (by omega) (by omega) zZS (zEd zP2) (by simp[zEd hd])
theorem zAdD {d:Dep}(hd:d.wf):zCV prg zAL [(0,str d.name),(1,.agg (zFf d.want).toArray)]=some (.agg (zFl d).toArray):=by
 obtain⟨a,b,c,e⟩:=Ver.cases3 hd.want.ver
 obtain⟨n,⟨op,⟨p,pre⟩⟩⟩:=d
 simp only at e
 subst e
 rw[zIv zAlx];rfl
theorem zZ4 {P:zA2}{H:zAw}{v:Value}{mv:List MV}{nm:List UInt8}(hp:zNM P H v mv)(hl:mv.length<=1000) :
  zAz prg zLZ [v,str nm] H λu H'=>BufE 6 (λb=>H.size<=b/\b<H'.size) H' u ((zLH (zBR mv) nm).map zFl)/\Keep zAM H H':=by
 apply zQj
 unfold zQu
 let I:Nat->zAn:=λi w h=>BufE 6 (λb=>H.size<=b/\b<h.size) h w ((zLH ((zBR mv).take i) nm).map zFl)/\Keep zAM H h
 have hln:(zBR mv).length=mv.length:=by simp
 refine zMh (λw _ h=>I mv.length w h) (λk1 hk1=>?_) ?_
 rotate_left
 ·rintro w _ h ⟨b,k⟩
  rw[zAs (by omega)]at b
  exact⟨b,k⟩
 rw[hp.len,zAa]
 refine zUv (λw z h=>∃ i:Nat,i<=mv.length/\z = .int .i64 (i:Nat)/\I i w h) (λ_ z _=>match z with | .int _ t=>mv.length-t.toNat|_=>0) ⟨0,zAA _,rfl,BufE.nil,Keep.refl⟩ ?_
 rintro t5 _ h4 ⟨i,hi,rfl,b4,k4⟩ k3 hk3
 have g4:=k4.1
 rw[zOC,zAa,zAl]
 by_cases hlt:i<mv.length
 rotate_left
 ·rw[if_neg (by simpa using hlt)]
  obtain rfl:i=mv.length:=by omega
  exact hk1 _ _ _ ⟨b4,k4⟩
 rw[if_pos (by simpa using hlt)]
 have hg:mv[i]? = some mv[i]:=zAj hlt
 generalize mv[i]=x at *
 have hgh:(zBR mv)[i]? = some x.1:=by rw[zAp,hg];rfl
 obtain⟨hmx,b,o,hix,hpt,_⟩:=(hp.keep k4 λ_ _=>id).at hg
 have w:=hmx.wf
 refine zNW (λw h=>I (i+1) w h) (λk5 hk5=>?_) ?_
 rotate_left
 ·rintro w' h6 hI
  rw[zBV (by omega),zAa]
  exact hk3 _ _ _ ⟨i+1,by omega,rfl,hI⟩ (by show mv.length-(i+1)<mv.length-i;omega)
 rw[hix .i64,zAa,zNq hpt w,zAa]
 simp only[zMS,zBa]
 generalize hH7:h4.push (.cells (zGI ⟨[],zEQ,[],[],[]⟩ zCq zCq zCq).toArray zAi (0,0))=h7
 have k7:Keep zAM h4 h7:=by rw[<- hH7];exact Keep.push
 have a7:At h7 h4.size (zGI ⟨[],zEQ,[],[],[]⟩ zCq zCq zCq):=by rw[<- hH7];exact At.push
 obtain⟨h8,st8,a8,k8⟩:=a7.st (n:=8) (ds:=mvC x) (zBK zOD) (zBK w) (zG1 hmx)
 have k48:Keep zAM h4 h8:=k7.fresh k8 λb hb=>by omega
 have k08:=k4.trans k48
 have g48:=k48.1
 simp only[zBf,zAg,zAu,zAa]
 rw[st8,zAV,zDd a8,zAa,zTY,zAa,zAl]
 have hot:zLH ((zBR mv).take (i+1)) nm=zLH ((zBR mv).take i) nm++(if (!decide (x.1.name=nm))=true then [⟨x.1.name,⟨[61],x.1.ver⟩⟩] else []):=by
  unfold zLH
  rw[zHY hgh,zAE]
  congr 1
  split<;>rfl
 have hol:(zLH ((zBR mv).take i) nm).length<=1000:=by
  unfold zLH
  rw[zAf]
  have h1:=zBl (λm:Man=>!decide (m.name=nm)) ((zBR mv).take i)
  rw[zAZ]at h1
  omega
 cases hq:decide (x.1.name=nm)
 rotate_left
 ·rw[if_neg (by decide)]
  rw[hq]at hot
  refine hk5 _ _ ⟨?_,k08⟩
  rw[hot]
  simp only[zAe,zAb,if_false,zAN]
  exact(b4.keep k48 λ_ _=>id).mono λb hb=>by omega
 ·rw[if_pos (by rfl),zAa,zI7 a8 w,zAa]
  rw[hq]at hot
  have s61:(Value.string ⟨#[61]⟩)=str [61]:=rfl
  let d:Dep:=⟨x.1.name,⟨[61],x.1.ver⟩⟩
  have hd:d.wf:=⟨⟨w.ver,by simp[d]⟩,w.name⟩
  rw[s61,zAdC w.ver,zAa]
  show Mpu (zCV prg zAL [(0,str d.name),(1,.agg (zFf d.want).toArray)]) _
  rw[zAdD hd,zAa,zTg hd,zCh]
  have hr:=zOG (T:=zAL) (h:=h8) (n:=6) (zEd hd) (zKZ (d:=d))
  have kp:Keep zAM h8 (h8.push (.cells (zFl d).toArray zAL (0,0))):=Keep.push
  have gp:=kp.1
  refine(((b4.keep k48 λ_ _=>id).keep kp λ_ _=>id).mono (G:=λb=>H.size<=b) λb hb=>hb.1).app hr (by omega) (by rw[zAf,zBe];omega) (by show H.size<=_;omega) λt h10 b10 k10=>?_
  refine hk5 _ _ ⟨?_,(k08.trans kp).fresh k10 λb hb=>hb⟩
  rw[hot]
  simp only[zAd,if_true,zAE,zAW,zCm]
  exact BufE.re b10 λb hb hF=>⟨hF,hb⟩
structure zQz where
 kind:Int
 name:List UInt8
 want:zSO
 bound:Int
structure zQz.wf (a:zQz):Prop where
 name:a.name.length<=9223372036854775807
 want:a.want.wf
def zSt (a:zQz):List Value:=[.int .i64 a.kind,str a.name]++zFf a.want++[.int .i64 a.bound]
theorem zTh {a:zQz}(h:a.wf):(zSt a).length=8:=by simp[zSt,zF8 h.want]
section
variable {h:zAw} {q:Nat} {a:zQz}
theorem zOH (p:At h q (zSt a)):ld1 h (Ptr q 0)=some (.int .i64 a.kind):=p.ld rfl
theorem zTi (p:At h q (zSt a)):ld1 h (Ptr q 1)=some (str a.name):=p.ld rfl
theorem zZ5 (p:At h q (zSt a))(w:a.wf):Go.X.ldN 5 h (Ptr q 2)=some (Value.agg (zFf a.want).toArray):=by
 obtain⟨T,p⟩:=p
 exact ldN_mid (A:=[.int .i64 a.kind,str a.name]) (B:=zFf a.want) (C:=[.int .i64 a.bound]) p rfl (zF8 w.want).symm
theorem zUk (p:At h q (zSt a))(w:a.wf):ld1 h (Ptr q 7)=some (.int .i64 a.bound):=p.ld (by
 have:=zF8 w.want
 unfold zSt
 rw[zBb (by simp[this]),zAq,this];rfl)
end
def zUl (a:zQz):Bool:=if a.kind=1 then zHX a.want else decide (a.want=zVW)
def zQV (a:zQz):Bool:=decide (a.kind>=1)&&decide (a.kind<=3)&&zJi a.name&&zUl a&&decide (a.bound>=0)&&decide (a.bound<=65536)
theorem leI {x y:Int}:zAC .no .leq (.int .i64 x) (.int .i64 y)=some (.bool (decide (x<=y))):=by rw[zAH];rfl
set_option maxHeartbeats 1000000 in
theorem zAa0 {H:zAw}{a:zQz}(w:a.wf)(hO:zQR H):zAz prg zLn [.agg (zSt a).toArray] H λu H'=>u = .bool (zQV a)/\Keep zAM H H':=by
 apply zOs
 unfold zN3
 simp only[zB1,zBa,zBf,zAg,zAu,zAa,zAmR]
 generalize hH1:H.push (.cells (zSt a).toArray zFt (0,0))=H1
 have k1:Keep zAM H H1:=by rw[<- hH1];exact Keep.push
 have a1:At H1 H.size (zSt a):=by rw[<- hH1];exact At.push
 rw[zZ5 a1 w,zAa,zAjJ w.want zTb,zAa]
 refine zNW (λu h=>u = .bool (zUl a)/\Keep zAM H1 h) (λk2 hk2=>?_) ?_
 ·rw[zOH a1,zAa,eqI,zAa,zAl]
  unfold zUl at hk2
  by_cases e:a.kind=1
  ·rw[if_pos e]at hk2
   rw[if_pos (by simpa using e),zAa]
   refine zAJ (zMP w.want (hO.keep k1 λ_ h=>h.elim)) ?_
   rintro _ h ⟨rfl,k⟩
   exact hk2 _ _ ⟨rfl,k⟩
  ·rw[if_neg e]at hk2
   rw[if_neg (by simpa using e)]
   exact hk2 _ _ ⟨rfl,Keep.refl⟩
 rintro _ h3 ⟨rfl,k3⟩
 have a3:=a1.keep k3 id
 have k03:=k1.trans k3
 unfold zQV
 rw[zOH a3,zAa,geI,zAa]
 cases q1:decide (a.kind>=1)
 ·simp only[zBQ,zAO,zAT,zAb,if_false,zAv,zAa,zA1]
  exact⟨by trivial,k03⟩
 refine zDS rfl ?_
 rw[zAa,leI,zAa]
 show Mpu (zBH (.bool true) (.bool (decide (a.kind<=3))) (.bool false)) _
 rw[zAv,if_pos rfl,zAa]
 cases q2:decide (a.kind<=3)
 ·simp only[zBQ,zAO,zAT,zAb,if_false,zAv,zAa,zA1,zB8]
  exact⟨by trivial,k03⟩
 refine zDS rfl ?_
 rw[zTi a3,zAa]
 refine zAJ (zZn w.name) ?_
 rintro _ h8 ⟨rfl,k8⟩
 have a8:=a3.keep k8 id
 have k08:=k03.trans k8
 rw[zAv,if_pos rfl,zAa]
 cases q3:zJi a.name
 ·simp only[zBQ,zAO,zAT,zAb,if_false,zAv,zAa,zA1,zB8]
  exact⟨by trivial,k08⟩
 refine zDS rfl ?_
 show Mpu (zBH (.bool true) (.bool (zUl a)) (.bool false)) _
 rw[zAv,if_pos rfl,zAa]
 cases q4:zUl a
 ·simp only[zBQ,zAO,zAT,zAb,if_false,zAv,zAa,zA1,zB8]
  exact⟨by trivial,k08⟩
 refine zDS rfl ?_
 rw[zUk a8 w,zAa,geI,zAa]
 show Mpu (zBH (.bool true) (.bool (decide (a.bound>=0))) (.bool false)) _
 rw[zAv,if_pos rfl,zAa]
 cases q5:decide (a.bound>=0)
 ·simp only[zBQ,zAO,zAT,zAb,if_false,zAv,zAa,zA1,zB8]
  exact⟨by trivial,k08⟩
 refine zDS rfl ?_
 rw[zUk a8 w,zAa,leI,zAa]
 show Mpu (zBH (.bool true) (.bool (decide (a.bound<=65536))) (.bool false)) _
 rw[zAv,if_pos rfl,zAa]
 exact⟨by simp,k08⟩
theorem zAdE {P:zA2}{H:zAw}{mv:List MV}{wants:List Dep}{vh vw:Value}{b:Int}(hp:Prb P H mv wants vh vw)(hok:zIe (zBR mv) wants b=false)(hl:mv.length<=256)(hwl:wants.length<=64)(hO:zQR H) :
  zAz prg zLX [.agg (zNO vh vw b).toArray] H λu H'=>u = .tuple #[.slice none 0 0,.int .i64 0,.int .i64 10]/\Keep zAM H H':=by
 apply zLM
 unfold zND
 simp only[zB1,zBa]
 have k1:Keep zAM H (H.push (.cells (zNO vh vw b).toArray zBX (0,0))):=Keep.push
 have a1:At (H.push (.cells (zNO vh vw b).toArray zBX (0,0))) H.size (zNO vh vw b):=At.push
 rw[a1.ldN (n:=3) rfl,zAa]
 refine zAJ (zAcV (hp.keep k1 λ_ _=>id) hl hwl (hO.keep k1 λ_ h=>h.elim)) ?_
 rintro _ h2 ⟨rfl,k2⟩
 rw[hok,if_neg (by decide),neI,zAa,zAl,if_pos (by decide)]
 exact⟨rfl,k1.trans k2⟩
def ChR (hv:List Man)(wants:List Dep)(b:Int)(PP:zA2)(H H':zAw)(u:Value):Prop :=
 (zIe hv wants b=false/\u = .tuple #[.slice none 0 0,.int .i64 10]) \/
 (zIe hv wants b=true/\∃ (r:Res) (s:Nat),Run hv b.toNat (.sol [] wants) 0 r s/\match r with
  | .ok l=>zJX hv l/\∃ t goal Fg,u = .tuple #[t,.int .i64 0]/\zBR goal=(zG0 hv l).map (gM hv)/\BufE 8 Fg H' t (goal.map mvC)/\(∀ b,Fg b->H.size<=b/\b<H'.size)/\(∀ x∈goal,zMf (λb=>PP b/\¬ Fg b) H' x.1 x.2.1 x.2.2.1 x.2.2.2)/\∀ x∈goal,x.1.deps.length<=1000/\x.1.conf.length<=1000
  | .fail=>u = .tuple #[.slice none 0 0,.int .i64 40]
  | .over=>u = .tuple #[.slice none 0 0,.int .i64 42])
theorem zAgR {v:Value}{b:Int}(hv:v.oneCell'=true):zCV prg zBX [(0,v),(2,.int .i64 b)]=some (.agg (zNO v zCq b).toArray):=by
 have k:zMu prg zBX=some ([(0,1),(1,1),(2,1)],(zNO zCq zCq 0).toArray):=by kernel_rfl
 have hc:v.cells=#[v]:=by
  cases v<;>first|rfl|(simp[Value.oneCell']at hv)
 rw[zIv k,zJa (off:=0) (n:=1) rfl (by rw[hc];rfl) (by simp[zNO]),zJa (off:=2) (n:=1) rfl rfl (by rw[hc];simp[zNO,spl]),zTG,hc]
 rfl
theorem zAkp:zBE prg zBX=some (zNO zCq zCq 0).toArray:=by kernel_rfl
theorem zAdF {n:Nat}{F:zA2}{T:TypeId}{h:zAw}{x:List Value}(hx:x.length=n)(h1:∀ c∈x,c.oneCell'=true)(hF:F h.size):BufE n F (h.push (.cells x.toArray T (0,0))) (.slice (some ⟨h.size,0,none⟩) 1 1) [x] :=
 ⟨λy hy=>by rw[zAF.1 hy];exact hx,λy hy=>by rw[zAF.1 hy];exact h1,.inr ⟨h.size,0,1,x.toArray,T,(0,0),rfl,hF,zAh _,zCa,by simp[hx],λ_ _=>zLt,by
  have:x.take n=x:=zAs (by omega)
  simpa [hx] using this⟩⟩
def zST (inst:List Man)(nm:List UInt8)(w:zSO):List Dep:=⟨nm,w⟩::zLH inst nm
set_option maxHeartbeats 4000000 in
theorem zAfC {P R:zA2}{p:Nat}{l:List Pk}{H:zAw}{v:Value}{mv:List MV}{a:zQz}{w:zSO}(hp:zNM P H v mv)(q:zPN R p l H)(hP:∀ b,P b->b<H.size)(ha:a.wf)(hw:w.wf)(hl:mv.length+l.length<=40)(hO:zQR H) :
  zAz prg zOk [v,Ptr p 0,.agg (zSt a).toArray,.agg (zFf w).toArray] H λu H'=>ChR (zEO (zBR mv) l) (zST (zBR mv) a.name w) a.bound (λb=>P b\/R b\/(H.size<=b/\b<H'.size)) H H' u/\Keep zAM H H':=by
 apply zQh
 unfold zQs
 simp only[zB1,zBa,zBf,zAg,zAu,zAa,zAkp]
 generalize hH1:H.push (.cells (zSt a).toArray zFt (0,0))=H1
 have k1:Keep zAM H H1:=by rw[<- hH1];exact Keep.push
 have a1:At H1 H.size (zSt a):=by rw[<- hH1];exact At.push
 have s1:H1.size=H.size+1:=by rw[<- hH1];simp
 generalize hH2:H1.push (.cells (zFf w).toArray zBL (0,0))=H2
 have k2:Keep zAM H1 H2:=by rw[<- hH2];exact Keep.push
 have a2:At H2 H1.size (zFf w):=by rw[<- hH2];exact At.push
 have s2:H2.size=H1.size+1:=by rw[<- hH2];simp
 have k02:=k1.trans k2
 have a12:=a1.keep k2 id
 have hR:∀ b,R b->b<H.size:=by obtain⟨_,_,_,_,_,_,_,_,_,_,_,h⟩:=q;exact h
 have dB:∀ h,Keep zAM H2 h->ld1 h (Ptr H.size 7)=some (.int .i64 a.bound):=λh k=>zUk (a12.keep k id) ha
 have dN:∀ h,Keep zAM H2 h->ld1 h (Ptr H.size 1)=some (str a.name):=λh k=>zTi (a12.keep k id)
 have dW:∀ h,Keep zAM H2 h->ldN 5 h (Ptr H1.size 0)=some (.agg (zFf w).toArray):=λh k=>(a2.keep k id).ldN (zF8 hw)
 let inst:=zBR mv
 have hil:inst.length=mv.length:=by simp[inst]
 have hthere:(zEO inst l).length<=40:=by
  unfold zEO
  have h1:=zBl (zYN inst) (l.map (·.1))
  rw[zAf]at h1
  rw[zAq];omega
 have hoth:(zLH inst a.name).length<=40:=by
  unfold zLH
  have h1:=zBl (λm:Man=>!decide (m.name=a.name)) inst
  rw[zAf];omega
 let PQ:Nat->zAw->zA2:=λz h b=>(P b\/R b\/H2.size<=b)/\b<h.size/\b≠z
 let I1:zAn:=λx h=>∃ z vh mv',x=Ptr z 0/\At h z (zNO vh zCq a.bound)/\zBR mv'=zEO inst l/\zNM (PQ z h) h vh mv'/\H2.size<=z/\Keep zAM H2 h
 have mre:∀ {Q Q':zA2} {h:zAw} {u:Value} {ml:List MV},zNM Q h u ml->(∀ b,Q b->Q' b)->zNM Q' h u ml:=λm k=>⟨m.h.mono k,λx hx=>(m.m x hx).mono k,m.sm⟩
 refine zNW I1 (λk3 hk3=>?_) ?_
 ·rw[dB _ Keep.refl,zAa]
  refine⟨?_,?_⟩
  ·refine zAJ (zAdB (hp.keep k02 λ_ _=>id) (q.keep k02 λ_ _=>id) (by omega) (by omega)) ?_
   rintro t19 h4 ⟨⟨mv',he,hm⟩,k4⟩
   have g4:=k4.1
   have o19:t19.oneCell'=true:=hm.h.oneC
   rw[dB _ k4,zBq,zA9,zAgR o19,zAa]
   generalize hH5:h4.push (.cells (zNO zCq zCq 0).toArray zBX (0,0))=h5
   have k5:Keep zAM h4 h5:=by rw[<- hH5];exact Keep.push
   have a5:At h5 h4.size (zNO zCq zCq 0):=by rw[<- hH5];exact At.push
   have s5:h5.size=h4.size+1:=by rw[<- hH5];simp
   obtain⟨h6,st6,a6,k6⟩:=a5.st (n:=3) (ds:=zNO t19 zCq a.bound) rfl rfl (λc hc=>by
    simp only[zNO,zAr,zCG,or_false]at hc
    rcases hc with rfl|rfl|rfl
    ·exact o19
    ·rfl
    ·rfl)
   have g6:=k6.1
   rw[dB _ (k4.trans k5),zBq,zA9,st6,zAV]
   refine hk3 _ _ ⟨h4.size,t19,mv',rfl,a6,he,mre ((hm.keep k5 λ_ _=>id).keep k6 λb hb e=>?_) λb hb=>?_,g4,(k4.trans k5).fresh k6 λb hb=>by omega⟩
   ·subst e
    rcases hb with h|h|h
    ·have:=hP _ h;omega
    ·have:=hR _ h;omega
    ·omega
   ·rcases hb with h|h|h
    ·have:=hP _ h;exact⟨.inl h,by omega,by omega⟩
    ·have:=hR _ h;exact⟨.inr (.inl h),by omega,by omega⟩
    ·exact⟨.inr (.inr h.1),by omega,by omega⟩
  ·generalize hH7:H2.push (.cells (zNO zCq zCq 0).toArray zBX (0,0))=h7
   have k7:Keep zAM H2 h7:=by rw[<- hH7];exact Keep.push
   have a7:At h7 H2.size (zNO zCq zCq 0):=by rw[<- hH7];exact At.push
   have s7:h7.size=H2.size+1:=by rw[<- hH7];simp
   rw[dB _ k7,zBq,zA9]
   refine zAJ (zAdB (hp.keep (k02.trans k7) λ_ _=>id) (q.keep (k02.trans k7) λ_ _=>id) (by omega) (by omega)) ?_
   rintro t19 h8 ⟨⟨mv',he,hm⟩,k8⟩
   have g8:=k8.1
   have o19:t19.oneCell'=true:=hm.h.oneC
   rw[dB _ (k7.trans k8),zBq,zA9,zAgR o19,zAa]
   obtain⟨h9,st9,a9,k9⟩:=(a7.keep k8 id).st (n:=3) (ds:=zNO t19 zCq a.bound) rfl rfl (λc hc=>by
    simp only[zNO,zAr,zCG,or_false]at hc
    rcases hc with rfl|rfl|rfl
    ·exact o19
    ·rfl
    ·rfl)
   have g9:=k9.1
   rw[st9,zAV]
   refine hk3 _ _ ⟨H2.size,t19,mv',rfl,a9,he,mre (hm.keep k9 λb hb e=>?_) λb hb=>?_,zAh _,(k7.trans k8).fresh k9 λb hb=>by omega⟩
   ·subst e
    rcases hb with h|h|h
    ·have:=hP _ h;omega
    ·have:=hR _ h;omega
    ·omega
   ·rcases hb with h|h|h
    ·have:=hP _ h;exact⟨.inl h,by omega,by omega⟩
    ·have:=hR _ h;exact⟨.inr (.inl h),by omega,by omega⟩
    ·exact⟨.inr (.inr (by omega)),by omega,by omega⟩
 rintro _ h10 ⟨z,vh,mv',rfl,a10,he,hm10,hz,k10⟩
 have g10:=k10.1
 have hd:(⟨a.name,w⟩:Dep).wf:=⟨hw,ha.name⟩
 have lz:=a10.lt
 let wants:=zST inst a.name w
 let I2:zAw->Prop:=λh=>∃ vw,At h z (zNO vh vw a.bound)/\SlE 6 (λb=>h10.size<=b/\b<h.size) h vw (wants.map zFl)/\Keep (· = z) h10 h
 have hpk:∀ h,Keep zAM H2 h->zNM P h v mv:=λh k=>hp.keep (k02.trans k) λ_ _=>id
 have fin:∀ (t27 t31:Value) (h13:zAw),BufE 6 (λb=>h10.size<=b) h13 t27 [zFl ⟨a.name,w⟩]->SlE 6 (λb=>h10.size<=b) h13 t31 ((zLH inst a.name).map zFl)->Keep zAM h10 h13->(∀ h,I2 h->∀ k:zAw->Prop,(∀ h,I2 h->k h)->k h) ->
   ∀ k11:zAw->Prop,(∀ h,I2 h->k11 h)->zIU zAL 6 72 h13 t27 t31 λt32 h14=>Mwr (st1 h14 (Ptr z 1) t32) λh15=>k11 h15:=λt27 t31 h13 b27 b31 k13 _ k11 hk11=>by
  have g13:=k13.1
  refine b27.app b31 (by omega) (by rw[zBe,zAf];omega) (by show h10.size<=h13.size;omega) λt32 h14 b14 k14=>?_
  obtain⟨h15,st15,a15,k15⟩:=((a10.keep k13 id).keep k14 λhb=>by omega).st1 (i:=1) (v:=t32) (by simp[zNO]) b14.sl.oneC
  rw[st15,zAV]
  have g15:=k15.1
  refine hk11 _ ⟨t32,a15,((BufE.re b14 (G:=λb=>h10.size<=b/\b<h14.size) λb h1 h2=>⟨h2,h1⟩).sl.keep k15 λb hb e=>by omega).mono λb hb=>by omega,?_⟩
  exact(((k13.mono λ_ _ h=>h.elim).fresh' k14 λb hb => .inr hb).trans k15)
 refine zAi0 I2 (λk11 hk11=>?_) ?_
 ·rw[dN _ k10,zAa,dW _ k10,zAa]
  show Mpu (zCV prg zAL [(0,str (⟨a.name,w⟩:Dep).name),(1,.agg (zFf (⟨a.name,w⟩:Dep).want).toArray)]) _
  rw[zAdD hd,zAa,zAa]
  simp only[zBf,zAg,zAa]
  refine⟨?_,?_⟩
  ·rw[zTg hd,zCh]
   have kp:Keep zAM h10 (h10.push (.cells (zFl ⟨a.name,w⟩).toArray zAL (0,0))):=Keep.push
   have hb:=zAdF (T:=zAL) (h:=h10) (n:=6) (F:=λb=>h10.size<=b) (zEd hd) zKZ (zAh _)
   generalize h10.push (.cells (zFl ⟨a.name,w⟩).toArray zAL (0,0))=h12 at *
   rw[dN _ (k10.trans kp),zBq,zA9]
   refine zAJ (zZ4 (hpk _ (k10.trans kp)) (by omega)) ?_
   rintro t31 h13 ⟨b31,k13⟩
   have gp:=kp.1
   rw[dW _ ((k10.trans kp).trans k13),dN _ ((k10.trans kp).trans k13),zBq,zBq,zA9]
   exact fin _ _ _ (hb.keep k13 λ_ _=>id) (b31.sl.mono λb hb=>by show h10.size<=b;omega) (kp.trans k13) (λh hI k hk=>hk h hI) k11 hk11
  ·refine zAJ (zZ4 (hpk _ k10) (by omega)) ?_
   rintro t31 h16 ⟨b31,k16⟩
   rw[dW _ (k10.trans k16),dN _ (k10.trans k16),zBq,zBq,zA9,zTg hd,zCh]
   have g16:=k16.1
   have kp:Keep zAM h16 (h16.push (.cells (zFl ⟨a.name,w⟩).toArray zAL (0,0))):=Keep.push
   have hb:=zAdF (T:=zAL) (h:=h16) (n:=6) (F:=λb=>h10.size<=b) (zEd hd) zKZ (show h10.size<=h16.size by omega)
   generalize hv27:Value.slice (some ⟨h16.size,0,none⟩) 1 1=t27 at *
   generalize h16.push (.cells (zFl ⟨a.name,w⟩).toArray zAL (0,0))=h17 at *
   rw[dN _ ((k10.trans k16).trans kp),zBq,zA9]
   exact fin _ _ _ hb ((b31.sl.keep kp λ_ _=>id).mono λb hb=>by show h10.size<=b;omega) (k16.trans kp) (λh hI k hk=>hk h hI) k11 hk11
 rintro h20 ⟨vw,a20,w20,k20⟩
 have g20:=k20.1
 rw[a20.ldN (n:=3) rfl,zAa]
 have k220:Keep zAM H2 h20:=k10.fresh k20 λb hb=>by omega
 have k020:=k02.trans k220
 let PS:zA2:=λb=>(P b\/R b\/H2.size<=b)/\b<h20.size
 have hm20:zNM (PQ z h10) h20 vh mv':=hm10.keep k20 λb hb=>hb.2.2
 have hml:mv'.length<=40:=by
  have:(zBR mv').length=mv'.length:=by simp
  rw[<- this,he];exact hthere
 have hwf:∀ d∈wants,d.wf:=λd hd'=>by
  rcases zAr.1 hd' with rfl|hd'
  ·exact hd
  ·obtain⟨m,hm,rfl⟩:=zAo.1 hd'
   obtain⟨hm,_⟩:=zAX.1 hm
   obtain⟨x,hx,rfl⟩:=zAo.1 hm
   have wx:=(hp.m x hx).wf
   exact⟨⟨wx.ver,by simp⟩,wx.name⟩
 have prb:Prb PS h20 mv' wants vh vw:=⟨hm20.h.mono λb hb=>⟨hb.1,by have:=hb.2.1;omega⟩,λx hx=>(hm20.m x hx).mono λb hb=>⟨hb.1,by have:=hb.2.1;omega⟩,w20.mono λb hb=>⟨.inr (.inr (by omega)),hb.2⟩,hwf,hm20.sm⟩
 have hwl:wants.length<=64:=by show(zLH inst a.name).length+1<=64;omega
 have hO20:zQR h20:=hO.keep k020 λ_ h=>h.elim
 have x0:∀ a b c:Value,zFg 0 (.tuple #[a,b,c])=some a:=λ_ _ _=>rfl
 have x1:∀ a b c:Value,zFg 1 (.tuple #[a,b,c])=some b:=λ_ _ _=>rfl
 have x2:∀ a b c:Value,zFg 2 (.tuple #[a,b,c])=some c:=λ_ _ _=>rfl
 have hhe:zBR mv'=zEO (zBR mv) l:=he
 cases hok:zIe (zBR mv') wants a.bound
 ·refine zAJ (zAdE prb hok (by omega) hwl hO20) ?_
  rintro _ h21 ⟨rfl,k21⟩
  rw[x0,zAa,x1,zAa,x2,zAa,neI,zAa,zAl,if_pos (by decide)]
  exact⟨.inl ⟨by rw[<- hhe];exact hok,rfl⟩,k020.trans k21⟩
 refine zAJ (zAio prb (λb hb=>hb.2) hok hml hwl hO20) ?_
 rintro u h21 ⟨⟨r,s,hrun,hu⟩,k21⟩
 have k021:=k020.trans k21
 have g21:=k21.1
 have g020:=k020.1
 rw[hhe]at hrun hok hu
 cases r with
 | fail =>
  obtain rfl:=hu
  rw[x0,zAa,x1,zAa,x2,zAa,neI,zAa,zAl,if_pos (by decide)]
  exact⟨.inr ⟨hok,.fail,s,hrun,rfl⟩,k021⟩
 | over =>
  obtain rfl:=hu
  rw[x0,zAa,x1,zAa,x2,zAa,neI,zAa,zAl,if_pos (by decide)]
  exact⟨.inr ⟨hok,.over,s,hrun,rfl⟩,k021⟩
 | ok ks =>
  obtain⟨hns,t37,rfl,b37⟩:=hu
  rw[x0,zAa,x1,zAa,x2,zAa,neI,zAa,zAl,if_neg (by decide)]
  have hm21:zNM (PQ z h10) h21 vh mv':=hm20.keep k21 λ_ _=>id
  have a21:=a20.keep k21 id
  let sl:=zG0 (zEO (zBR mv) l) ks
  have hsn:zJX (zEO (zBR mv) l) sl:=hns.sorted
  have hthl:(zEO (zBR mv) l).length=mv'.length:=by rw[<- hhe];simp
  have hsl:sl.length<=40:=by have:=hsn.len;omega
  have hlen:=b37.sl.len
  rw[zNr,zQx]at hlen
  let I:Nat->zAn:=λi t h=>∃ goal,zBR goal=(sl.take i).map (gM (zEO (zBR mv) l))/\BufE 8 (λb=>h21.size<=b/\b<h.size) h t (goal.map mvC)/\(∀ x∈goal,x∈mv')/\Keep zAM h21 h
  refine zMh (λt _ h=>I sl.length t h) (λk22 hk22=>?_) ?_
  rotate_left
  ·rintro t _ h ⟨goal,hg,hb,hmm,kh⟩
   rw[zAs (zAh _)]at hg
   have gh:=kh.1
   refine⟨.inr ⟨hok,.ok ks,s,hrun,hns,t,goal,λb=>h21.size<=b/\b<h.size,rfl,hg,hb,λb hb=>by omega,λx hx=>?_,λx hx=>hm21.sm x (hmm x hx)⟩,k021.trans kh⟩
   exact((hm21.m x (hmm x hx)).keep kh λ_ _=>id).mono λb hb=>by
    have h3:=hb.2.1
    refine⟨?_,λhh=>by omega⟩
    rcases hb.1 with h|h|h
    ·exact .inl h
    ·exact .inr (.inl h)
    ·exact .inr (.inr ⟨by omega,by omega⟩)
  rw[hlen,zAa]
  refine zUv (λt y h=>∃ i:Nat,i<=sl.length/\y = .int .i64 (i:Nat)/\I i t h) (λ_ y _=>match y with | .int _ t=>sl.length-t.toNat|_=>0) ⟨0,zAA _,rfl,[],rfl,BufE.nil,λx hx=>(by cases hx),Keep.refl⟩ ?_
  rintro t14 _ h25 ⟨i,hi,rfl,goal,hg,hb,hmm,kh⟩ k24 hk24
  have gh:=kh.1
  rw[zOC,zAa,zAl]
  by_cases hlt:i<sl.length
  rotate_left
  ·rw[if_neg (by simpa using hlt)]
   obtain rfl:i=sl.length:=by omega
   exact hk22 _ _ _ ⟨goal,hg,hb,hmm,kh⟩
  rw[if_pos (by simpa using hlt)]
  have hgl:sl[i]? = some sl[i]:=zAj hlt
  have hkl:=hsn.1 _ (zAG hlt)
  generalize sl[i]=k at *
  obtain⟨b1,o1,hix1,hpt1,_⟩:=(b37.sl.keep kh λ_ _=>id).at (i:=i) (x:=[.int .i64 ((k:Nat):Int)]) (zRD (zAj3 hgl))
  rw[hix1 .i64,zAa,hpt1.cell0 rfl,zAa,zBf,zAa,zAg,(a21.keep kh id).ld (i:=0) rfl,zAa]
  have hgk:mv'[k]? = some (mv'[k]'(by omega)):=zAj (by omega)
  have hkm:=zAG (show k<mv'.length by omega)
  generalize mv'[k]'(by omega)=x at *
  have hgm:gM (zEO (zBR mv) l) k=x.1:=by rw[<- hhe];exact zAcP hgk
  obtain⟨hmx,b2,o2,hix2,hpt2,_⟩:=(hm21.keep kh λ_ _=>id).at hgk
  have wx:=hmx.wf
  rw[hix2 .i64,zAa,zNq hpt2 wx,zAa,zSs (zBK wx),zCh]
  have hr:=zOG (T:=zAi) (h:=h25) (n:=8) (zBK wx:(mvC x).length=8) (zG1 hmx)
  have kp:Keep zAM h25 (h25.push (.cells (mvC x).toArray zAi (0,0))):=Keep.push
  have gp:=kp.1
  have hgoal:goal.length=i:=by
   have:=congrArg List.length hg
   rw[zAf,zAf,zAZ]at this;omega
  refine((hb.keep kp λ_ _=>id).mono (G:=λb=>h21.size<=b) λb hb=>hb.1).app hr (by omega) (by rw[zAf,zBe];omega) (by show h21.size<=_;omega) λt h27 b27 k27=>?_
  rw[zBV (by omega),zAa]
  refine hk24 _ _ _ ⟨i+1,by omega,rfl,goal++[x],?_,?_,λy hy=>?_,?_⟩ (by show sl.length-(i+1)<sl.length-i;omega)
  ·rw[zAI,hgl,zAE,<- hg]
   simp[zBR,hgm]
  ·rw[show(goal++[x]).map mvC=goal.map mvC++[mvC x] by simp]
   exact BufE.re b27 λb h1 h2=>⟨h2,h1⟩
  ·rcases zAt.1 hy with hy|hy
   ·exact hmm y hy
   ·rw[zAF.1 hy];exact hkm
  ·exact(kh.trans kp).fresh k27 λb hb=>hb
open Go.Sort (swp PermIn SortedIn Below SWO)
instance:Inhabited MV:=⟨(⟨[],zEQ,[],[],[]⟩,zCq,zCq,zCq)⟩
def zYO (x y:MV):Bool:=decide (zNo x.1.name y.1.name<0)
theorem zAiy:SWO zYO:=zAdf zF7 λx:MV=>x.1.name
def zWc (l:List MV):Prop:=l.Pairwise λx y=>zNo x.1.name y.1.name<0
theorem zAfD {l l':List MV}(hr:zWc l)(hp:l'.Perm l)(hs:l'.Pairwise (λx y=>zYO y x=false)):l'=l:=by
 have hs2:l.Pairwise (λx y=>zYO y x=false):=hr.imp λ{a b} h=>by
  unfold zYO
  have:=zF7.turn a.1.name b.1.name
  rw[decide_eq_false];omega
 refine zSn (λa ha b hb h1 h2=>?_) hp hs hs2
 have ha':=hp.mem_iff.1 ha
 have hb':=hp.mem_iff.1 hb
 obtain⟨i,hi,rfl⟩:=zBx ha'
 obtain⟨j,hj,rfl⟩:=zBx hb'
 have hq:=zBG.1 hr
 unfold zYO at h1 h2
 rcases Nat.lt_trichotomy i j with h|h|h
 ·have:=hq i j hi hj h
  simp[this]at h1
 ·subst h;rfl
 ·have:=hq j i hj hi h
  simp[this]at h2
theorem zAdG {F:zA2}{H:zAw}{v:Value}{l:List MV}(hv:BufE 8 F H v (l.map mvC))(hr:zWc l)(hF:∀ b,F b->b<H.size)(hl:l.length<=900000) :
  zAz prg zCI [v,.func (.func zFm) #[] #[]] H λ_ H'=>BufE 8 F H' v (l.map mvC)/\Keep F H H':=by
 apply zEw
 unfold zDt
 have hlen:=hv.sl.len
 rw[zAf]at hlen
 let fv:Value := .func (.func zFm) #[] #[]
 have hcE:zAlH (Ev8 mvC) fv zYO (λ_=>True):=λx y h _=>by
  refine zZZ (x:=x) (y:=y) λh' k=>⟨⟨_,rfl,rfl⟩,k⟩
 have ok:zIM (zLk fv) mvC (Ev8 mvC) zYO (λ_=>True) F v:=⟨λhr _ hi=>zV7 hr hi,λhr _ _ hi hj=>zAc7 hr hi hj,λhg hk=>zAgC hcE hg hk⟩
 rw[hlen,zAa,zAdg (by omega),zAa]
 refine zAJ (zAgJ (by omega)) ?_
 rintro _ _ ⟨⟨m,rfl,hm⟩,rfl⟩
 refine zAJ (zYG (zPb fv) ok zAiy (l:=l) (m:=m) hv (λ_ _=>trivial) hF hl hm) ?_
 rintro _ H' ⟨⟨l',h1,h2,h3⟩,k⟩
 rw[zAfD hr h1 h2]at h3
 exact⟨h3,k⟩
def Own (n0:Nat)(col:Nat->Nat)(k:Nat)(h:zAw)(b:Nat):Prop:=col b=k/\n0<=b/\b<h.size
def zJl (col:Nat->Nat)(h:zAw)(k:Nat)(b:Nat):Nat:=if b<h.size then col b else k
theorem Own.ext {n0:Nat}{col:Nat->Nat}{k j:Nat}{h h':zAw}{b:Nat}(o:Own n0 col k h b)(hs:h.size<=h'.size):Own n0 (zJl col h j) k h' b :=
 ⟨by unfold zJl;rw[if_pos o.2.2];exact o.1,o.2.1,zAS o.2.2 hs⟩
theorem Own.new {n0:Nat}{col:Nat->Nat}{k:Nat}{h h':zAw}{b:Nat}(hn:n0<=h.size)(h1:h.size<=b)(h2:b<h'.size):Own n0 (zJl col h k) k h' b :=
 ⟨by unfold zJl;rw[if_neg (by omega)],by omega,h2⟩
theorem zAiz {n n0 sz k:Nat}{T:TypeId}{P:zA2}{col:Nat->Nat}{h:zAw}{v x:Value}{xs ys:List (List Value)}{K:zAn}(b:BufE n (Own n0 col k h) h v xs)(hx:SlE n P h x ys)(h0:0<sz)(hlen:(xs.length+ys.length)*sz<=140737488355328)(hn:n0<=h.size)
  (hk:∀ v' h',BufE n (Own n0 (zJl col h k) k h') h' v' (xs++ys)->Keep (λb=>Own n0 col k h b\/h.size<=b) h h'->K v' h'):zIU T n sz h v x K:=by
 refine(b.mono (G:=λb=>Own n0 col k h b\/h.size<=b) λ_ hb => .inl hb).app hx h0 hlen (.inr (zAh _)) λv' h' b' k'=>hk v' h' (BufE.re b' λb hl hb=>?_) k'
 rcases hb with hb|hb
 ·exact hb.ext k'.1
 ·exact Own.new hn hb hl
def chC (kind:Int)(d s t:Value):List Value:=[.int .i64 kind,d,s,t]
structure ChI (n0 z:Nat)(kind:Int)(col:Nat->Nat)(d s t:Value)(dr:List MV)(ad:List PW)(af:List MV)(h:zAw):Prop where
 a:At h z (chC kind d s t)
 bd:BufE 8 (Own n0 col 1 h) h d (dr.map mvC)
 bs:BufE 9 (Own n0 col 2 h) h s (ad.map pvC)
 bt:BufE 8 (Own n0 col 3 h) h t (af.map mvC)
 md:∀ x∈dr,zMf (Own n0 col 4 h) h x.1 x.2.1 x.2.2.1 x.2.2.2
 ms:∀ x∈ad,PkV (Own n0 col 4 h) h x
 mt:∀ x∈af,zMf (Own n0 col 4 h) h x.1 x.2.1 x.2.2.1 x.2.2.2
 n:n0<=h.size
 zl:z<n0
section
variable {n0 z:Nat} {kind:Int} {col:Nat->Nat} {d s t:Value} {dr:List MV} {ad:List PW} {af:List MV} {h h':zAw}
theorem ChI.fresh (c:ChI n0 z kind col d s t dr ad af h)(k:Keep zAM h h'):ChI n0 z kind (zJl col h 4) d s t dr ad af h' :=
 ⟨c.a.keep k id,(c.bd.keep k λ_ _=>id).mono λ_ o=>o.ext k.1,(c.bs.keep k λ_ _=>id).mono λ_ o=>o.ext k.1,(c.bt.keep k λ_ _=>id).mono λ_ o=>o.ext k.1,λx hx=>((c.md x hx).keep k λ_ _=>id).mono λ_ o=>o.ext k.1,λx hx=>((c.ms x hx).keep k λ_ _=>id).mono λ_ o=>o.ext k.1,λx hx=>((c.mt x hx).keep k λ_ _=>id).mono λ_ o=>o.ext k.1,zBj c.n k.1,c.zl⟩
theorem ChI.low {S:zA2}(c:ChI n0 z kind col d s t dr ad af h)(k:Keep S h h')(hS:∀ b,S b->(b<n0/\b≠z)\/h.size<=b):ChI n0 z kind (zJl col h 4) d s t dr ad af h':=by
 have ho:∀ j b,Own n0 col j h b->¬ S b:=λj b o hs=>by
  rcases hS b hs with h1|h1
  ·have:=o.2.1;omega
  ·have:=o.2.2;omega
 have hz:¬ S z:=λhs=>by
  rcases hS z hs with h1|h1
  ·exact h1.2 rfl
  ·have:=c.n;have:=c.zl;omega
 exact⟨c.a.keep k hz,(c.bd.keep k (ho 1)).mono λ_ o=>o.ext k.1,(c.bs.keep k (ho 2)).mono λ_ o=>o.ext k.1,(c.bt.keep k (ho 3)).mono λ_ o=>o.ext k.1,λx hx=>((c.md x hx).keep k (ho 4)).mono λ_ o=>o.ext k.1,λx hx=>((c.ms x hx).keep k (ho 4)).mono λ_ o=>o.ext k.1,λx hx=>((c.mt x hx).keep k (ho 4)).mono λ_ o=>o.ext k.1,zBj c.n k.1,c.zl⟩
theorem ChI.coarse (c:ChI n0 z kind col d s t dr ad af h){j:Nat}(k:Keep (λb=>(Own n0 col j h b\/h.size<=b)\/b=z) h h'):Keep (λb=>n0<=b\/b=z) h h' :=
 k.mono λb _ hb=>hb.imp (λhh=>hh.elim (λo=>o.2.1) λh=>zBj c.n h) id
theorem zKp {j k:Nat}(hjk:j≠k){b:Nat}(o:Own n0 col j h b):¬ (Own n0 col k h b\/h.size<=b):=λhh=>by
 rcases hh with hh|hh
 ·exact hjk (o.1.symm.trans hh.1)
 ·have:=o.2.2;omega
theorem ChI.addD (c:ChI n0 z kind col d s t dr ad af h){x:MV}{P:zA2}{y:Value}{K:zAw->Prop}(hx:zMf (Own n0 col 4 h) h x.1 x.2.1 x.2.2.1 x.2.2.2)(hy:SlE 8 P h y [mvC x])(hl:dr.length<=1000000)
  (hk:∀ h' col' d',ChI n0 z kind col' d' s t (dr++[x]) ad af h'->Keep (λb=>(Own n0 col 1 h b\/h.size<=b)\/b=z) h h'->K h'):zIU zAi 8 128 h d y λv h1=>Mwr (st1 h1 (Ptr z 1) v) K:=by
 refine zAiz c.bd hy (by omega) (by rw[zAf,zBe];omega) c.n λv h1 b1 k1=>?_
 have hz:¬ (Own n0 col 1 h z\/h.size<=z):=λhh=>by
  have:=c.zl
  rcases hh with hh|hh
  ·have:=hh.2.1;omega
  ·have:=c.n;omega
 obtain⟨h2,st2,a2,k2⟩:=(c.a.keep k1 hz).st1 (i:=1) (v:=v) (by simp[chC]) b1.sl.oneC
 rw[st2,zAV]
 have g1:=k1.1
 have g2:=k2.1
 have zz:∀ {j b},Own n0 (zJl col h 1) j h1 b->b≠z:=λo e=>by have:=o.2.1;have:=c.zl;omega
 have up:∀ {j b},Own n0 (zJl col h 1) j h1 b->Own n0 (zJl col h 1) j h2 b:=λo=>⟨o.1,o.2.1,by have:=o.2.2;omega⟩
 refine hk h2 (zJl col h 1) v ⟨a2,?_,((((c.bs.keep k1 λb o=>zKp (by decide) o).mono λ_ o=>o.ext g1).keep k2 λb o=>zz o).mono λ_ o=>up o),((((c.bt.keep k1 λb o=>zKp (by decide) o).mono λ_ o=>o.ext g1).keep k2 λb o=>zz o).mono λ_ o=>up o),λu hu=>?_,λu hu=>((((c.ms u hu).keep k1 λb o=>zKp (by decide) o).mono λ_ o=>o.ext g1).keep k2 λb o=>zz o).mono λ_ o=>up o,λu hu=>((((c.mt u hu).keep k1 λb o=>zKp (by decide) o).mono λ_ o=>o.ext g1).keep k2 λb o=>zz o).mono λ_ o=>up o,by have:=c.n;omega,c.zl⟩ ?_
 ·rw[show(dr++[x]).map mvC=dr.map mvC++[mvC x] by simp]
  exact(b1.keep k2 λb o=>zz o).mono λ_ o=>up o
 ·rcases zAt.1 hu with hu|hu
  ·exact((((c.md u hu).keep k1 λb o=>zKp (by decide) o).mono λ_ o=>o.ext g1).keep k2 λb o=>zz o).mono λ_ o=>up o
  ·rw[zAF.1 hu]
   exact(((hx.keep k1 λb o=>zKp (by decide) o).mono λ_ o=>o.ext g1).keep k2 λb o=>zz o).mono λ_ o=>up o
 ·exact(k1.mono λb _ hb => .inl hb).trans (k2.mono λ_ _ e => .inr e)
theorem ChI.addA (c:ChI n0 z kind col d s t dr ad af h){x:MV}{P:zA2}{y:Value}{K:zAw->Prop}(hx:zMf (Own n0 col 4 h) h x.1 x.2.1 x.2.2.1 x.2.2.2)(hy:SlE 8 P h y [mvC x])(hl:af.length<=1000000)
  (hk:∀ h' col' t',ChI n0 z kind col' d s t' dr ad (af++[x]) h'->Keep (λb=>(Own n0 col 3 h b\/h.size<=b)\/b=z) h h'->K h'):zIU zAi 8 128 h t y λv h1=>Mwr (st1 h1 (Ptr z 3) v) K:=by
 refine zAiz c.bt hy (by omega) (by rw[zAf,zBe];omega) c.n λv h1 b1 k1=>?_
 have hz:¬ (Own n0 col 3 h z\/h.size<=z):=λhh=>by
  have:=c.zl
  rcases hh with hh|hh
  ·have:=hh.2.1;omega
  ·have:=c.n;omega
 obtain⟨h2,st2,a2,k2⟩:=(c.a.keep k1 hz).st1 (i:=3) (v:=v) (by simp[chC]) b1.sl.oneC
 rw[st2,zAV]
 have g1:=k1.1
 have g2:=k2.1
 have zz:∀ {j b},Own n0 (zJl col h 3) j h1 b->b≠z:=λo e=>by have:=o.2.1;have:=c.zl;omega
 have up:∀ {j b},Own n0 (zJl col h 3) j h1 b->Own n0 (zJl col h 3) j h2 b:=λo=>⟨o.1,o.2.1,by have:=o.2.2;omega⟩
 refine hk h2 (zJl col h 3) v ⟨a2,((((c.bd.keep k1 λb o=>zKp (by decide) o).mono λ_ o=>o.ext g1).keep k2 λb o=>zz o).mono λ_ o=>up o),((((c.bs.keep k1 λb o=>zKp (by decide) o).mono λ_ o=>o.ext g1).keep k2 λb o=>zz o).mono λ_ o=>up o),?_,λu hu=>((((c.md u hu).keep k1 λb o=>zKp (by decide) o).mono λ_ o=>o.ext g1).keep k2 λb o=>zz o).mono λ_ o=>up o,λu hu=>((((c.ms u hu).keep k1 λb o=>zKp (by decide) o).mono λ_ o=>o.ext g1).keep k2 λb o=>zz o).mono λ_ o=>up o,λu hu=>?_,by have:=c.n;omega,c.zl⟩ ?_
 ·rw[show(af++[x]).map mvC=af.map mvC++[mvC x] by simp]
  exact(b1.keep k2 λb o=>zz o).mono λ_ o=>up o
 ·rcases zAt.1 hu with hu|hu
  ·exact((((c.mt u hu).keep k1 λb o=>zKp (by decide) o).mono λ_ o=>o.ext g1).keep k2 λb o=>zz o).mono λ_ o=>up o
  ·rw[zAF.1 hu]
   exact(((hx.keep k1 λb o=>zKp (by decide) o).mono λ_ o=>o.ext g1).keep k2 λb o=>zz o).mono λ_ o=>up o
 ·exact(k1.mono λb _ hb => .inl hb).trans (k2.mono λ_ _ e => .inr e)
theorem ChI.addS (c:ChI n0 z kind col d s t dr ad af h){x:PW}{P:zA2}{y:Value}{K:zAw->Prop}(hx:PkV (Own n0 col 4 h) h x)(hy:SlE 9 P h y [pvC x])(hl:ad.length<=1000000)
  (hk:∀ h' col' s',ChI n0 z kind col' d s' t dr (ad++[x]) af h'->Keep (λb=>(Own n0 col 2 h b\/h.size<=b)\/b=z) h h'->K h'):zIU zA5 9 152 h s y λv h1=>Mwr (st1 h1 (Ptr z 2) v) K:=by
 refine zAiz c.bs hy (by omega) (by rw[zAf,zBe];omega) c.n λv h1 b1 k1=>?_
 have hz:¬ (Own n0 col 2 h z\/h.size<=z):=λhh=>by
  have:=c.zl
  rcases hh with hh|hh
  ·have:=hh.2.1;omega
  ·have:=c.n;omega
 obtain⟨h2,st2,a2,k2⟩:=(c.a.keep k1 hz).st1 (i:=2) (v:=v) (by simp[chC]) b1.sl.oneC
 rw[st2,zAV]
 have g1:=k1.1
 have g2:=k2.1
 have zz:∀ {j b},Own n0 (zJl col h 2) j h1 b->b≠z:=λo e=>by have:=o.2.1;have:=c.zl;omega
 have up:∀ {j b},Own n0 (zJl col h 2) j h1 b->Own n0 (zJl col h 2) j h2 b:=λo=>⟨o.1,o.2.1,by have:=o.2.2;omega⟩
 refine hk h2 (zJl col h 2) v ⟨a2,((((c.bd.keep k1 λb o=>zKp (by decide) o).mono λ_ o=>o.ext g1).keep k2 λb o=>zz o).mono λ_ o=>up o),?_,((((c.bt.keep k1 λb o=>zKp (by decide) o).mono λ_ o=>o.ext g1).keep k2 λb o=>zz o).mono λ_ o=>up o),λu hu=>((((c.md u hu).keep k1 λb o=>zKp (by decide) o).mono λ_ o=>o.ext g1).keep k2 λb o=>zz o).mono λ_ o=>up o,λu hu=>?_,λu hu=>((((c.mt u hu).keep k1 λb o=>zKp (by decide) o).mono λ_ o=>o.ext g1).keep k2 λb o=>zz o).mono λ_ o=>up o,by have:=c.n;omega,c.zl⟩ ?_
 ·rw[show(ad++[x]).map pvC=ad.map pvC++[pvC x] by simp]
  exact(b1.keep k2 λb o=>zz o).mono λ_ o=>up o
 ·rcases zAt.1 hu with hu|hu
  ·exact((((c.ms u hu).keep k1 λb o=>zKp (by decide) o).mono λ_ o=>o.ext g1).keep k2 λb o=>zz o).mono λ_ o=>up o
  ·rw[zAF.1 hu]
   exact(((hx.keep k1 λb o=>zKp (by decide) o).mono λ_ o=>o.ext g1).keep k2 λb o=>zz o).mono λ_ o=>up o
 ·exact(k1.mono λb _ hb => .inl hb).trans (k2.mono λ_ _ e => .inr e)
end
end Go.Proofs.YticdfkoncnnmmaaGreatDoor
