import Derived.Test.YticdfkoncnnmmaaGreatDoorH9
import Derived.Test.YticdfkoncnnmmaaGreatDoorGO
import Derived.Test.YticdfkoncnnmmaaGreatDoorH4
import Derived.Test.YticdfkoncnnmmaaGreatDoorH7
set_option linter.unusedSimpArgs false
set_option linter.unusedVariables false
set_option maxRecDepth 100000
namespace Go.Proofs.YticdfkoncnnmmaaGreatDoor
open Go.X Go.X.Diff Go.MapKept
theorem zAaJ {α β:Type}{p:β->Bool}{g:α->β}:∀ {l:List α} {k:Nat},zUT p (l.map g) k=zUT (λx=>p (g x)) l k
 | [],_=>rfl
 | x::l,k=>by rw[zA0,zUT,zUT,zAaJ (l:=l)]
theorem zAaK {α:Type}{p:α->Bool}{x:α}:∀ {l:List α} {i:Nat},l[i]? = some x->p x=true->(∀ y∈l.take i,p y=false)->l.find? p=some x
 | [],_,h,_,_=>by simp at h
 | a::l,0,h,hp,_=>by simp at h;subst h;simp[hp]
 | a::l,i+1,h,hp,hn=>by
  rw[zC6,hn a (by simp)]
  exact zAaK (l:=l) (i:=i) (by simpa using h) hp λy hy=>hn y (by rw[zBX];simp[hy])
theorem zTK {α:Type}{p:α->Bool}{l:List α}:(zUT p l 0 = -1/\l.find? p=none)\/∃ (i:Nat) (x:α),zUT p l 0=(i:Int)/\l[i]? = some x/\l.find? p=some x:=by
 rcases zYd (p:=p) (l:=l) (k:=0) with ⟨h1,h2⟩|⟨i,x,h1,h2,h3,h4⟩
 ·exact .inl ⟨h1,zCq.2 λx hx=>by simp[h2 x hx]⟩
 ·exact .inr ⟨i,x,by rw[h1,zAi],h2,zAaK h2 h3 h4⟩
def zJy (nm:List UInt8)(v:Ver)(y:Pk):Bool:=decide (y.1.name=nm)&&decide (y.1.ver=v)
def zTL (x:Pk):Bool:=zEC x.1&&zFj x.1.files x.2
def zAbF (l:List Pk)(x:Pk):Int:=if zTL x=false then 10 else match l.find? (zJy x.1.name x.1.ver) with
 | some y=>if zRm y.1 x.1 then 0 else 44
 | none=>if l.length=256 then 12 else 0
def zSr (l:List Pk)(x:Pk):List Pk:=if zTL x=false then l else match l.find? (zJy x.1.name x.1.ver) with
 | some _=>l
 | none=>if l.length=256 then l else l++[x]
def zPr (R:zA1)(p:Nat)(l:List Pk)(h:zAx):Prop:=∃ (F P:zA1) (u:Value) (pv:List PW),pv.map zJg=l/\At h p [u]/\BufE 9 F h u (pv.map pvC)/\(∀ x∈pv,PkV P h x)/\(∀ b,F b->R b/\b≠p/\¬ P b)/\(∀ b,P b->R b/\b≠p)/\R p/\∀ b,R b->b<h.size
theorem zPr.keep {R S:zA1}{p:Nat}{l:List Pk}{h h':zAx}(q:zPr R p l h)(k:Keep S h h')(hs:∀ b,R b->¬ S b):zPr R p l h':=by
 obtain⟨F,P,u,pv,q1,q2,q3,q4,q5,q6,q7,q8⟩:=q
 exact⟨F,P,u,pv,q1,q2.keep k (hs _ q7),q3.keep k λb hb=>hs b (q5 b hb).1,λx hx=>(q4 x hx).keep k λb hb=>hs b (q6 b hb).1,q5,q6,q7,λb hb=>zAM (q8 b hb) k.1⟩
theorem zYe {H:zAx}:zAA prg zK5 [] H λu H'=>u=Ptr H.size 0/\zPr (· = H.size) H.size [] H'/\Keep zAK H H':=by
 apply zPR
 unfold zPQ
 have e:zCM prg zQ6 []=some (.agg #[.slice none 0 0]):=by kernel_rfl
 rw[e,zAa]
 simp only[zB8,zBb]
 exact⟨by trivial,⟨λ_=>False,λ_=>False,.slice none 0 0,[],rfl,At.push,BufE.nil,λx h=>(by cases h),λb h=>h.elim,λb h=>h.elim,rfl,λb hb=>by subst hb;simp⟩,Keep.push⟩
theorem zSc {R:zA1}{p:Nat}{l:List Pk}{H:zAx}(q:zPr R p l H):zAA prg zHR [Ptr p 0] H λu H'=>u = .int .i64 (l.length:Nat)/\H=H':=by
 apply zPj
 unfold zO4
 obtain⟨F,P,u,pv,q1,q2,q3,_⟩:=q
 have nck1:∀ b,nck (Ptr b 0)=some (Ptr b 0):=λ_=>rfl
 have hl:=q3.sl.len
 rw[zAd]at hl
 simp only[nck1,zBf,zAi,zAa]
 rw[q2.ld (i:=0) rfl,zAa,hl,zAa]
 exact⟨by rw[<- q1,zAd],by trivial⟩
theorem zAhk {h:zAx}{q:Nat}{x:PW}(a:At h q (pvC x))(w:x.1.1.wf):ldN 4 h (Ptr q 1)=some (.agg (zEm x.1.1.ver).toArray):=by
 have e:pvC x=[str x.1.1.name]++zEm x.1.1.ver++[x.1.2.1,x.1.2.2.1,x.1.2.2.2,x.2.1]:=by simp[pvC,mvC,zGN]
 rw[e]at a
 obtain⟨T,a⟩:=a
 exact ldN_mid a rfl (zDH w.ver).symm
theorem zAhl {h:zAx}{b o:Nat}{x:PW}(a:Pt h b o (pvC x))(w:x.1.1.wf):ldN 8 h (Ptr b o)=some (.agg (mvC x.1).toArray) :=
 (Pt.mid (A:=[]) (B:=mvC x.1) (C:=[x.2.1]) (o:=o) (o':=o) (by simpa [pvC] using a) rfl).agg (zBB w)
theorem zAaL {R:zA1}{p:Nat}{l:List Pk}{H:zAx}{nm:List UInt8}{v:Ver}(q:zPr R p l H)(hv:v.wf)(hl:l.length<=1000):zAA prg zK6 [Ptr p 0,str nm,.agg (zEm v).toArray] H λu H'=>u = .int .i64 (zUT (zJy nm v) l 0)/\Keep zAK H H':=by
 apply zPU
 unfold zPT
 have ec:Value.cells (str nm)=[str nm].toArray:=rfl
 have nck1:∀ b,nck (Ptr b 0)=some (Ptr b 0):=λ_=>rfl
 simp only[ec,zB8,zBb,nck1,zBf,zAi,zAa]
 generalize hH1:H.push (.cells [str nm].toArray zBJ (0,0))=H1
 have k1:Keep zAK H H1:=by rw[<- hH1];exact Keep.push
 have a1:At H1 H.size [str nm]:=by rw[<- hH1];exact At.push
 generalize hH2:H1.push (.cells (zEm v).toArray zAO (0,0))=H2
 have k2:Keep zAK H1 H2:=by rw[<- hH2];exact Keep.push
 have a2:At H2 H1.size (zEm v):=by rw[<- hH2];exact At.push
 have k02:=k1.trans k2
 obtain⟨F,P,u,pv,q1,q2,q3,q4,_⟩:=q.keep k02 λ_ _=>id
 have hpl:pv.length<=1000:=by rw[<- q1,zAd]at hl;exact hl
 rw[q2.ld (i:=0) rfl,zAa]
 refine zAI (zFw (zAdX (enc:=pvC) (del:=λx:PW=>zJy nm v (zJg x)) (G:=λh=>At h H.size [str nm]/\At h H1.size (zEm v)) q3.sl (λx h hx hG=>?_) (λh k=>⟨(a1.keep k2 id).keep k id,a2.keep k id⟩) (by omega))) λu h ⟨e,k⟩=>⟨by rw[e,<- q1,zAaJ],k02.trans k⟩
 refine .inl ⟨zIY,#[],#[Ptr H.size 0,Ptr H1.size 0],rfl,by kernel_rfl,?_⟩
 show zAA prg zIY [.agg (pvC x).toArray,Ptr H.size 0,Ptr H1.size 0] h _
 apply zOI
 unfold zOh
 simp only[zB8,zBb,zBf,zAi,zAu,zAa]
 have w:=(q4 x hx).m.wf
 generalize hh2:h.push (.cells (pvC x).toArray zA6 (0,0))=h2
 have kp:Keep zAK h h2:=by rw[<- hh2];exact Keep.push
 have a3:At h2 h.size (pvC x):=by rw[<- hh2];exact At.push
 have d0:ld1 h2 (Ptr h.size 0)=some (str x.1.1.name):=a3.ld rfl
 rw[d0,zAa,(hG.1.keep kp id).ld (i:=0) rfl,zAa,zDV,zAa]
 have es:zJy nm v (zJg x)=(decide (x.1.1.name=nm)&&decide (x.1.1.ver=v)):=rfl
 cases h1:decide (x.1.1.name=nm)
 ·refine zId (by decide) ?_
  show Mpu (zBD (.bool false) undef (.bool false)) _
  rw[zAv,if_neg (by decide),zAa]
  exact⟨by rw[es,h1];rfl,kp⟩
 ·refine zDo rfl ?_
  rw[zAhk a3 w,zAa,(hG.2.keep kp id).ldN (zDH hv),zAa,zAbk w.ver hv,zAa]
  show Mpu (zBD (.bool true) (.bool (decide (x.1.1.ver=v))) (.bool false)) _
  rw[zAv,if_pos rfl,zAa]
  exact⟨by rw[es,h1];simp,kp⟩
theorem zQZ:zPW.1.1.wf:=zOr
theorem zAi2:∀ c∈pvC zPW,c.oneCell'=true:=by decide +kernel
theorem zAkU:zCM prg zA6 []=some (.agg (pvC zPW).toArray):=by kernel_rfl
theorem zAkV {R:zA1}{p:Nat}{l:List Pk}{H:zAx}{nm:List UInt8}{v:Ver}(q:zPr R p l H)(hv:v.wf)(hl:l.length<=1000):zAA prg zLE [Ptr p 0,str nm,.agg (zEm v).toArray] H λu H' =>
  ((l.find? (zJy nm v)=none/\u = .tuple #[.agg (pvC zPW).toArray,.bool false])\/∃ x':PW,l.find? (zJy nm v)=some (zJg x')/\u = .tuple #[.agg (pvC x').toArray,.bool true]/\PkV (λb=>H.size<=b/\b<H'.size) H' x')/\Keep zAK H H':=by
 apply zOF
 unfold zOd
 have nck1:∀ b,nck (Ptr b 0)=some (Ptr b 0):=λ_=>rfl
 simp only[zB8,zAbE,zAkU,zBb,nck1,zBf,zAi,zAa]
 generalize hH1:H.push (.cells (zEm v).toArray zAO (0,0))=H1
 have k1:Keep zAK H H1:=by rw[<- hH1];exact Keep.push
 have a1:At H1 H.size (zEm v):=by rw[<- hH1];exact At.push
 generalize hH2:H1.push (.cells (pvC zPW).toArray zA6 (0,0))=H2
 have k2:Keep zAK H1 H2:=by rw[<- hH2];exact Keep.push
 have a2:At H2 H1.size (pvC zPW):=by rw[<- hH2];exact At.push
 have g1:=k1.1
 have g2:=k2.1
 have k02:=k1.trans k2
 have q2:=q.keep k02 λ_ _=>id
 rw[(a1.keep k2 id).ldN (zDH hv),zAa]
 refine zAI (zAaL q2 hv hl) ?_
 rintro _ h3 ⟨rfl,k3⟩
 have k03:=k02.trans k3
 have g3:=k3.1
 have a3:=a2.keep k3 id
 rw[ltI,zAa,zAl]
 rcases zTK (p:=zJy nm v) (l:=l) with ⟨e1,e2⟩|⟨i,y,e1,e2,e3⟩
 ·rw[e1,if_pos (by decide)]
  obtain⟨h4,st4,a4,k4⟩:=a3.st (n:=9) (ds:=pvC zPW) (zD1 zQZ) (zD1 zQZ) zAi2
  rw[st4,zAW,a4.ldN (zD1 zQZ),zAa]
  exact⟨.inl ⟨e2,rfl⟩,k03.fresh k4 λb hb=>by omega⟩
 ·rw[e1,if_neg (by simp)]
  obtain⟨F,P,u,pv,q1,q2,q3,q4,_⟩:=q2.keep k3 λ_ _=>id
  rw[<- q1,zAq]at e2
  obtain⟨x,hx,rfl⟩:=zBF.1 e2
  have hxm:=q4 x (zAC hx)
  obtain⟨b,o,hix,hpt,_⟩:=q3.sl.at (i:=i) (x:=pvC x) (by rw[zAq,hx];rfl)
  rw[q2.ld (i:=0) rfl,zAa,hix .i64,zAa,hpt.agg (zD1 hxm.m.wf),zAa]
  refine zAI (zAaH hxm) ?_
  rintro _ h6 ⟨⟨x',rfl,hpk,hx'⟩,k6⟩
  have g6:=k6.1
  obtain⟨h7,st7,a7,k7⟩:=(a3.keep k6 id).st (n:=9) (ds:=pvC x') (zD1 zQZ) (zD1 hx'.m.wf) hx'.one
  have g7:=k7.1
  have g17:=a2.lt
  rw[st7,zAW,a7.ldN (zD1 hx'.m.wf),zAa]
  exact⟨.inr ⟨x',by rw[e3,hpk],rfl,(hx'.keep k7 λb hb=>by omega).mono λb hb=>by omega⟩,(k03.trans k6).fresh k7 λb hb=>by omega⟩
structure zAfY (P:zA1)(H:zAx)(x:PW):Prop where
 m:zLd P H x.1.1 x.1.2.1 x.1.2.2.1 x.1.2.2.2
 f:BSS P P H x.2.1 x.2.2
 sd:x.1.1.deps.length<=1000
 sc:x.1.1.conf.length<=1000
 sf:x.1.1.files.length<=1000
theorem zAfY.keep {P S:zA1}{H H':zAx}{x:PW}(h:zAfY P H x)(k:Keep S H H')(hs:∀ b,P b->¬ S b):zAfY P H' x:=⟨h.m.keep k hs,h.f.keep k hs hs,h.sd,h.sc,h.sf⟩
theorem zAfY.one {P:zA1}{H:zAx}{x:PW}(h:zAfY P H x):∀ c∈pvC x,c.oneCell'=true:=λc hc=>by
 rcases zAp.1 hc with hc|hc
 ·exact zFP (x:=x.1) h.m c hc
 ·rw[zAD.1 hc];exact h.f.sl.oneC
theorem zUF {m:Man}(h:zEC m=true):∀ f∈m.files,f.size<=1048576:=by
 unfold zEC zP4 at h
 simp only[zAk,decide_eq_true_eq]at h
 obtain⟨_,_,h3⟩:=h
 intro f hf
 obtain⟨i,hi,rfl⟩:=zBK hf
 have:=zAw.1 h3 i (zBC.2 hi)
 unfold zKh at this
 rw[zUA (zAj hi)]at this
 simp only[zAk,zBt,decide_eq_false_iff_not]at this
 have:=this.1.2
 omega
theorem zVM:∀ {fs:List zHt} {bs:List (List UInt8)},zFj fs bs=true->(∀ f∈fs,f.size<=1048576)->bs.length=fs.length/\∀ b∈bs,b.length<=1048576
 | [],[],_,_=>⟨rfl,λb h=>by cases h⟩
 | [],_::_,h,_=>by cases h
 | _::_,[],h,_=>by cases h
 | f::fs,b::bs,h,hs=>by
  rw[zFj,zAk]at h
  obtain⟨h1,h2⟩:=zVM h.2 λf hf=>hs f (by simp[hf])
  have h3:=h.1
  unfold zXQ at h3
  simp only[zAk,decide_eq_true_eq]at h3
  have h4:=hs f (by simp)
  refine⟨by simp[h1],λc hc=>?_⟩
  rcases zAs.1 hc with rfl|hc
  ·omega
  ·exact h2 c hc
theorem zZo {x:PW}(h:(pvC x).length=9):zF6 prg zA6 1 [(0,.agg (pvC x).toArray)]=some (pvC x).toArray :=
 zUn (by kernel_rfl:prg.cellsOf zA6=9) (by omega) (by omega) zAbE (zD1 zQZ) (by simp[h])
set_option maxHeartbeats 1000000 in
theorem zAi3 {R P:zA1}{p:Nat}{l:List Pk}{H:zAx}{x:PW}(q:zPr R p l H)(hx:zAfY P H x)(hP:∀ b,P b->b<H.size)(hl:l.length<=256)(hO:zQW H)(hS:zRs H) :
  zAA prg zHQ [Ptr p 0,.agg (pvC x).toArray] H λu H'=>u = .int .i64 (zAbF l (zJg x))/\(∃ R',zPr R' p (zSr l (zJg x)) H'/\∀ b,R' b->R b\/(H.size<=b/\b<H'.size))/\Keep R H H':=by
 apply zPi
 unfold zO3
 have nck1:∀ b,nck (Ptr b 0)=some (Ptr b 0):=λ_=>rfl
 simp only[zB8,zL8,zBb,nck1,zBf,zAi,zAu,zAa]
 generalize hH1:H.push (.cells (pvC x).toArray zA6 (0,0))=H1
 have k1:Keep zAK H H1:=by rw[<- hH1];exact Keep.push
 have a1:At H1 H.size (pvC x):=by rw[<- hH1];exact At.push
 have s1:H1.size=H.size+1:=by rw[<- hH1];simp
 have w:=hx.m.wf
 rw[a1.ldPre (A:=mvC x.1) (zBB w),zAa]
 generalize hH2:H1.push (.cells (zGN ⟨[],zEc,[],[],[]⟩ zCn zCn zCn).toArray zAe (0,0))=H2
 have k2:Keep zAK H1 H2:=by rw[<- hH2];exact Keep.push
 have a2:At H2 H1.size (zGN ⟨[],zEc,[],[],[]⟩ zCn zCn zCn):=by rw[<- hH2];exact At.push
 have hone:∀ c∈mvC x.1,c.oneCell'=true:=zFP (x:=x.1) hx.m
 obtain⟨h3,st3,a3,k3⟩:=a2.st (n:=8) (ds:=mvC x.1) (zBB zOr) (zBB w) hone
 have g2:=k2.1
 have k03:Keep zAK H h3:=(k1.trans k2).fresh k3 λb hb=>by omega
 have a13:=(a1.keep k2 id).keep k3 (by omega)
 rw[st3,zAW,a3.ldN (zBB w),zAa]
 have mono:∀ {h:zAx},Keep zAK H h->Keep R H h:=λk=>k.mono λ_ _ h=>h.elim
 have same:∀ {h:zAx} {e:Int},Keep zAK H h->zAbF l (zJg x)=e->zSr l (zJg x)=l->(Value.int .i64 e = .int .i64 (zAbF l (zJg x))/\(∃ R',zPr R' p (zSr l (zJg x)) h/\∀ b,R' b->R b\/(H.size<=b/\b<h.size))/\Keep R H h):=λk e1 e2=>⟨by rw[e1],⟨R,by rw[e2];exact q.keep k λ_ _=>id,λb hb => .inl hb⟩,mono k⟩
 have hsd:=hx.sd
 have hsc:=hx.sc
 refine zAI (zR8 (vd:=x.1.2.1) (vc:=x.1.2.2.1) (vf:=x.1.2.2.2) (hx.m.keep k03 λ_ _=>id) (by omega) (by omega) (hO.keep k03 λ_ h=>h.elim)) ?_
 rintro _ h4 ⟨rfl,k4⟩
 have k04:=k03.trans k4
 have a34:=a3.keep k4 id
 have a14:=a13.keep k4 id
 rw[zA7,zAa]
 have hpo:zTL (zJg x)=(zEC x.1.1&&zFj x.1.1.files (x.2.2.map (·.2))):=rfl
 have bad:zTL (zJg x)=false->zAbF l (zJg x)=10/\zSr l (zJg x)=l:=λe=>⟨by unfold zAbF;rw[if_pos e],by unfold zSr;rw[if_pos e]⟩
 cases hok:zEC x.1.1
 ·refine zId (by decide) ?_
  show Mpu (zBD (.bool true) (.bool true) undef) _
  rw[zAv,if_pos rfl,zAa,zAl,if_pos rfl]
  have:=bad (by rw[hpo,hok];rfl)
  exact same k04 this.1 this.2
 refine zDo rfl ?_
 have hsz:=zUF hok
 obtain⟨f1,_,_⟩:=zM8 hok
 have hx4:=hx.keep k04 λ_ _=>id
 have g04:=k04.1
 rw[a34.ldN (zBB w),zAa,a14.ld (i:=8) (zS3 w),zAa]
 refine zAI (zAda (vd:=x.1.2.1) (vc:=x.1.2.2.1) (vf:=x.1.2.2.2) hx4.m hx4.f (λb hb=>by have:=hP b hb;omega) (λe=>by omega) (λi y f h1 h2 h3=>by have:=hsz f (zAC h2);omega) (hS.keep k04 λ_ h=>h.elim)) ?_
 rintro _ h6 ⟨rfl,k6⟩
 have k06:=k04.trans k6
 have a36:=a34.keep k6 id
 have a16:=a14.keep k6 id
 rw[zA7,zAa]
 show Mpu (zBD (.bool false) (.bool true) (.bool (!zFj x.1.1.files (x.2.2.map (·.2))))) _
 rw[zAv,if_neg (by decide),zAa,zAl]
 cases hft:zFj x.1.1.files (x.2.2.map (·.2))
 ·rw[if_pos (by rfl)]
  have:=bad (by rw[hpo,hok,hft];rfl)
  exact same k06 this.1 this.2
 have hpk:zTL (zJg x)=true:=by rw[hpo,hok,hft];rfl
 obtain⟨z1,z2⟩:=zVM hft hsz
 rw[zAd]at z1
 have hxk:PkV P h6 x:=⟨(hx.keep k06 λ_ _=>id).m,(hx.keep k06 λ_ _=>id).f,hx.sd,hx.sc,hx.sf,by omega,λy hy=>z2 y.2 (zAo.2 ⟨y,hy,rfl⟩)⟩
 have q6:=q.keep k06 λ_ _=>id
 rw[if_neg (by decide),zDz a36,zAa,zHu a36 w,zAa]
 refine zAI (zAaL q6 w.ver (by omega)) ?_
 rintro _ h8 ⟨rfl,k8⟩
 have k08:=k06.trans k8
 have a38:=a36.keep k8 id
 have a18:=a16.keep k8 id
 have q8:=q6.keep k8 λ_ _=>id
 have hPE:zAbF l (zJg x)=match l.find? (zJy x.1.1.name x.1.1.ver) with
   | some y=>if zRm y.1 x.1.1 then 0 else 44
   | none=>if l.length=256 then 12 else 0:=by unfold zAbF;rw[if_neg (by rw[hpk];decide)];rfl
 have hPL:zSr l (zJg x)=match l.find? (zJy x.1.1.name x.1.1.ver) with
   | some _=>l
   | none=>if l.length=256 then l else l++[zJg x]:=by unfold zSr;rw[if_neg (by rw[hpk];decide)];rfl
 have q8':=q8
 obtain⟨F,P',u,pv,q1,q2,q3,q4,q5,q6',q7,q9⟩:=q8
 have hpl:pv.length=l.length:=by rw[<- q1,zAd]
 rw[geI,zAa,zAl]
 rcases zTK (p:=zJy x.1.1.name x.1.1.ver) (l:=l) with ⟨e1,e2⟩|⟨i,y,e1,e2,e3⟩
 rotate_left
 ·rw[e1,if_pos (by simp)]
  rw[e3]at hPE hPL
  have e2':=e2
  rw[<- q1,zAq]at e2
  obtain⟨z,hz,rfl⟩:=zBF.1 e2
  have hzm:=q4 z (zAC hz)
  obtain⟨b,o,hix,hpt,_⟩:=q3.sl.at (i:=i) (x:=pvC z) (by rw[zAq,hz];rfl)
  rw[q2.ld (i:=0) rfl,zAa,hix .i64,zAa,zBf,zAa,zAu,zAhl hpt hzm.m.wf,zAa,a38.ldN (zBB w),zAa]
  have h1:=hzm.sd
  have h2:=hzm.sc
  have h3:=hzm.sf
  refine zAI (zS2 (x:=z.1) (y:=x.1) hzm.m (hxk.m.keep k8 λ_ _=>id) (by omega) (by omega) (by omega)) ?_
  rintro _ h9 ⟨rfl,k9⟩
  rw[zA7,zAa,zAl]
  have hme:(zJg z).1=z.1.1:=rfl
  cases hq:zRm z.1.1 x.1.1
  ·rw[if_pos (by rfl)]
   exact same (k08.trans k9) (by rw[hPE];show(if zRm z.1.1 x.1.1=true then 0 else 44)=_;rw[hq];rfl) hPL
  ·rw[if_neg (by decide)]
   exact same (k08.trans k9) (by rw[hPE];show(if zRm z.1.1 x.1.1=true then 0 else 44)=_;rw[hq];rfl) hPL
 rw[e1,if_neg (by decide)]
 rw[e2]at hPE hPL
 have hlen:=q3.sl.len
 rw[zAd,hpl]at hlen
 have e256:zAB .no .eql (.int .i64 (l.length:Nat)) (.int .i64 256)=some (.bool (decide (l.length=256))):=zAjz (m:=256)
 rw[q2.ld (i:=0) rfl,zAa,hlen,zAa,e256,zAa,zAl]
 by_cases h256:l.length=256
 ·rw[if_pos (by simpa using h256)]
  exact same k08 (by rw[hPE];exact if_pos h256) (by rw[hPL];exact if_pos h256)
 rw[if_neg (by simpa using h256),zAa,a18.ldN (zD1 w),zAa]
 refine zAI (zAaH (hxk.keep k8 λ_ _=>id)) ?_
 rintro _ h10 ⟨⟨x',rfl,hpk',hx'⟩,k10⟩
 have g10:=k10.1
 rw[(q2.keep k10 id).ld (i:=0) rfl,zBp,zA8,zZo (zD1 hx'.m.wf),zCo]
 generalize hH11:h10.push (.cells (pvC x').toArray zA6 (0,0))=h11
 have k11:Keep zAK h10 h11:=by rw[<- hH11];exact Keep.push
 have g11:h11.size=h10.size+1:=by rw[<- hH11];simp
 rw[((q2.keep k10 id).keep k11 id).ld (i:=0) rfl,zBp,zA8]
 have hx11:SlE 9 (· = h10.size) h11 (.slice (some ⟨h10.size,0,none⟩) 1 1) [pvC x']:=⟨⟨_,1,rfl,zAh _,.inr ⟨h10.size,0,rfl,rfl,by
  show Pt h11 h10.size 0 [pvC x'].flatten
  rw[<- hH11,show [pvC x'].flatten=pvC x' by simp];exact Pt.of zCj⟩⟩,λy hy=>by rw[zAD.1 hy];exact zD1 hx'.m.wf,λy hy=>by rw[zAD.1 hy];exact hx'.one⟩
 have k811:=k10.trans k11
 have k011:=k08.trans k811
 have g811:=k811.1
 have g08:=k08.1
 refine((q3.keep k811 λ_ _=>id).mono (G:=λb=>F b\/h11.size<=b) λb hb => .inl hb).app hx11 (by omega) (by rw[zAd,zBc];omega) (.inr (zAh _)) λt h12 b12 k12=>?_
 have g12:=k12.1
 have hpn:¬ (F p\/h11.size<=p):=λhh=>hh.elim (λh=>(q5 p h).2.1 rfl) λh=>by have:=q9 p q7;omega
 obtain⟨h13,st13,a13',k13⟩:=(((q2.keep k10 id).keep k11 id).keep k12 hpn).st1 (i:=0) (v:=t) (by simp) b12.sl.oneC
 rw[st13,zAW]
 have g13:=k13.1
 have hP13:∀ {b},(P' b\/(h8.size<=b/\b<h10.size))->¬ (F b\/h11.size<=b)/\b≠p:=λ{b} hb=>by
  rcases hb with hb|hb
  ·have h1:=q6' b hb
   have h2:=q9 b h1.1
   exact⟨λhh=>hh.elim (λh=>(q5 b h).2.2 hb) λh=>by omega,h1.2⟩
  ·exact⟨λhh=>hh.elim (λh=>by have:=q9 b (q5 b h).1;omega) λh=>by omega,λe=>by have:=q9 p q7;omega⟩
 refine⟨by rw[hPE];exact congrArg _ (if_neg h256).symm,⟨λb=>R b\/(h8.size<=b/\b<h13.size),⟨λb=>(F b\/h11.size<=b)/\b<h12.size,λb=>P' b\/(h8.size<=b/\b<h10.size),t,pv++[x'],?_,a13',?_,?_,?_,?_,.inl q7,?_⟩,λb hb=>hb.imp id λh=>by omega⟩,?_⟩
 ·rw[hPL,zAF,q1,if_neg h256]
  simp[hpk']
 ·have e:(pv++[x']).map pvC=pv.map pvC++[pvC x']:=by simp
  rw[e]
  exact(BufE.re b12 λb hb hF=>⟨hF,hb⟩).keep k13 λb hb e=>hpn (e ▸ hb.1)
 ·intro z hz
  rcases zAp.1 hz with hz|hz
  ·exact((((q4 z hz).keep k811 λ_ _=>id).mono (Q:=λb=>P' b\/(h8.size<=b/\b<h10.size)) λb hb => .inl hb).keep k12 λb hb=>(hP13 hb).1).keep k13 λb hb=>(hP13 hb).2
  ·rw[zAD.1 hz]
   exact(((hx'.keep k11 λ_ _=>id).mono (Q:=λb=>P' b\/(h8.size<=b/\b<h10.size)) λb hb => .inr hb).keep k12 λb hb=>(hP13 hb).1).keep k13 λb hb=>(hP13 hb).2
 ·intro b hb
  refine⟨hb.1.elim (λh => .inl (q5 b h).1) λh => .inr (by have:=hb.2;omega),λe=>hpn (e ▸ hb.1),λhh=>(hP13 hh).1 hb.1⟩
 ·intro b hb
  exact⟨hb.elim (λh => .inl (q6' b h).1) λh => .inr (by omega),(hP13 hb).2⟩
 ·intro b hb
  rcases hb with hb|hb
  ·have:=q9 b hb;omega
  ·exact hb.2
 ·refine((mono k011).fresh' k12 λb hb=>?_).trans (k13.mono λb _ e=>by rw[e];exact q7)
  rcases hb with h|h
  ·exact .inl (q5 b h).1
  ·exact .inr (by omega)
def zYf (inst:List Man)(m:Man):Bool:=match inst.find? (λo=>decide (o.name=m.name)) with
 | none=>true
 | some o=>!decide (o.ver=m.ver)
def zDN (inst:List Man)(l:List Pk):List Man:=inst++(l.map (·.1)).filter (zYf inst)
theorem zSd {α β:Type}{p:β->Bool}{g:α->β}:∀ {l:List α},(l.map g).find? p=(l.find? λx=>p (g x)).map g
 | []=>rfl
 | x::l=>by
  rw[zA0,zC6,zC6,zSd (l:=l)]
  cases p (g x)<;>rfl
theorem zJh {α:Type}{l:List α}{i:Nat}{x:α}{p:α->Bool}(h:l[i]? = some x):(l.take (i+1)).filter p=(l.take i).filter p++(if p x then [x] else []):=by
 rw[zAG,h,List.filter_append]
 cases hp:p x<;>simp[hp]
theorem zNY {x:MV}(h:(mvC x).length=8):zF6 prg zAe 1 [(0,.agg (mvC x).toArray)]=some (mvC x).toArray :=
 zUn (by kernel_rfl:prg.cellsOf zAe=8) (by omega) (by omega) zL8 (zBB zOr) (by simp[h])
theorem zM9 {n:Nat}{T:TypeId}{h:zAx}{x:List Value}(hx:x.length=n)(h1:∀ c∈x,c.oneCell'=true):SlE n (· = h.size) (h.push (.cells x.toArray T (0,0))) (.slice (some ⟨h.size,0,none⟩) 1 1) [x] :=
 ⟨⟨_,1,rfl,zAh _,.inr ⟨h.size,0,rfl,rfl,by
  rw[show [x].flatten=x by simp];exact Pt.of zCj⟩⟩,λy hy=>by rw[zAD.1 hy];exact hx,λy hy=>by rw[zAD.1 hy];exact h1⟩
set_option maxHeartbeats 1000000 in
theorem zWQ {P R:zA1}{p:Nat}{l:List Pk}{H:zAx}{v:Value}{mv:List MV}(hp:zLB P H v mv)(q:zPr R p l H)(hl:mv.length<=1000)(hll:l.length<=1000) :
  zAA prg zJi [v,Ptr p 0] H λu H'=>(∃ mv',zCi mv'=zDN (zCi mv) l/\zLB (λb=>P b\/R b\/(H.size<=b/\b<H'.size)) H' u mv')/\Keep zAK H H':=by
 apply zRb
 unfold zRS
 have nck1:∀ b,nck (Ptr b 0)=some (Ptr b 0):=λ_=>rfl
 refine zAI (zVK hp.h (by rw[zAd];omega)) ?_
 rintro t10 h1 ⟨b1,k1⟩
 have g1:=k1.1
 obtain⟨F,P',u,pv,q1,q2,q3,q4,q5,q6,q7,q9⟩:=q
 have hpl:pv.length=l.length:=by rw[<- q1,zAd]
 have hR:∀ b,P' b->R b:=λb hb=>(q6 b hb).1
 have hlen:=q3.sl.len
 rw[zAd,hpl]at hlen
 let I:Nat->zAm:=λi w h=>∃ ys:List MV,BufE 8 (λb=>H.size<=b/\b<h.size) h w ((mv++ys).map mvC)/\ys.length<=i/\(∀ y∈ys,(∃ x∈pv,x.1=y))/\zCi ys=((l.take i).map (·.1)).filter (zYf (zCi mv))/\Keep zAK H h
 refine zMk (λw _ h=>I l.length w h) (λk2 hk2=>?_) ?_
 rotate_left
 ·rintro w _ h ⟨ys,by',hyl,hy,he,kh⟩
  rw[zAr (zAh _)]at he
  refine⟨⟨mv++ys,by unfold zDN;rw[<- he];simp[zCi],by'.sl.mono λb hb => .inr (.inr hb),λx hx=>?_,λx hx=>?_⟩,kh⟩
  ·rcases zAp.1 hx with hx|hx
   ·exact((hp.m x hx).keep kh λ_ _=>id).mono λb hb => .inl hb
   ·obtain⟨z,hz,rfl⟩:=hy x hx
    exact((q4 z hz).m.keep kh λ_ _=>id).mono λb hb => .inr (.inl (hR b hb))
  ·rcases zAp.1 hx with hx|hx
   ·exact hp.sm x hx
   ·obtain⟨z,hz,rfl⟩:=hy x hx
    exact⟨(q4 z hz).sd,(q4 z hz).sc⟩
 simp only[nck1,zBf,zAi,zAu,zAa]
 rw[(q2.keep k1 id).ld (i:=0) rfl,zAa,hlen,zAa]
 refine zUY (λw z h=>∃ i:Nat,i<=l.length/\z = .int .i64 (i:Nat)/\I i w h) (λ_ z _=>match z with | .int _ t=>l.length-t.toNat|_=>0) ⟨0,zAz _,rfl,[],by rw[zAP];exact b1,zAh _,λy hy=>(by cases hy),rfl,k1⟩ ?_
 rintro t5 _ h5 ⟨i,hi,rfl,ys,b5,hyl,hy,he,k5⟩ k4 hk4
 have g5:=k5.1
 rw[zNZ,zAa,zAl]
 by_cases hlt:i<l.length
 rotate_left
 ·rw[if_neg (by simpa using hlt)]
  obtain rfl:i=l.length:=by omega
  exact hk2 _ _ _ ⟨ys,b5,hyl,hy,he,k5⟩
 rw[if_pos (by simpa using hlt)]
 have hg:pv[i]? = some (pv[i]'(by omega)):=zAj (by omega)
 have hm:=zAH (show i<pv.length by omega)
 generalize pv[i]'(by omega)=x at *
 have hgl:l[i]? = some (zJg x):=by rw[<- q1,zAq,hg];rfl
 have hgm:(l.map (·.1))[i]? = some x.1.1:=by rw[zAq,hgl];rfl
 have hx5:=(q4 x hm).keep k5 λ_ _=>id
 have w:=hx5.m.wf
 obtain⟨b,o,hix,hpt,_⟩:=(q3.keep k5 λ_ _=>id).sl.at (i:=i) (x:=pvC x) (by rw[zAq,hg];rfl)
 refine zMk (λw _ h=>I (i+1) w h) (λk6 hk6=>?_) ?_
 rotate_left
 ·rintro w' _ h7 hI
  rw[zBV (by omega),zAa]
  exact hk4 _ _ _ ⟨i+1,by omega,rfl,hI⟩ (by show l.length-(i+1)<l.length-i;omega)
 rw[hix .i64,zAa,hpt.agg (zD1 w),zAa]
 simp only[zAbE,zBb,zBf,zAi,zAu,zAa]
 generalize hH8:h5.push (.cells (pvC zPW).toArray zA6 (0,0))=h8
 have k8:Keep zAK h5 h8:=by rw[<- hH8];exact Keep.push
 have a8:At h8 h5.size (pvC zPW):=by rw[<- hH8];exact At.push
 obtain⟨h9,st9,a9,k9⟩:=a8.st (n:=9) (ds:=pvC x) (zD1 zQZ) (zD1 w) hx5.one
 have k59:Keep zAK h5 h9:=k8.fresh k9 λb hb=>by omega
 have d0:ld1 h9 (Ptr h5.size 0)=some (str x.1.1.name):=a9.ld rfl
 rw[st9,zAW,d0,zAa]
 refine zAI (zAd0 (hp.keep (k5.trans k59) λ_ _=>id) (by omega)) ?_
 rintro _ h10 ⟨rfl,k10⟩
 have k510:=k59.trans k10
 have k010:=k5.trans k510
 have a10:=a9.keep k10 id
 have g510:=k510.1
 have hfm:(zCi mv).find? (λo=>decide (o.name=x.1.1.name))=(mv.find? λo:MV=>decide (o.1.name=x.1.1.name)).map (·.1):=zSd
 have no:zYf (zCi mv) x.1.1=false->∀ h',Keep zAK h10 h'->I (i+1) t5 h':=λhf h' k'=>⟨ys,(b5.keep (k510.trans k') λ_ _=>id).mono λb hb=>by have:=k'.1;omega,by omega,hy,by rw[zCD,zJh hgm,hf,<- zCD,<- he];simp,k010.trans k'⟩
 have yes:zYf (zCi mv) x.1.1=true->∀ h' w2,Keep zAK h10 h'->Mpu (ldN 8 h' (Ptr h5.size 0)) λt40=>zD2 h' zAe 1 (zF6 prg zAe 1 [(0,t40)]) λt41 h13=>zIw zAe 8 128 h13 t5 t41 λt42 h14=>k6 t42 w2 h14:=λhf h' w2 k'=>by
  have a':=a10.keep k' id
  rw[a'.ldPre (A:=mvC x.1) (zBB w),zAa,zNY (zBB w),zCo]
  have hr:=zM9 (T:=zAe) (h:=h') (n:=8) (zBB w:(mvC x.1).length=8) (zFP (x:=x.1) hx5.m)
  have kp:Keep zAK h' (h'.push (.cells (mvC x.1).toArray zAe (0,0))):=Keep.push
  have gp:=kp.1
  have g':=k'.1
  have k0p:=(k510.trans k').trans kp
  refine((b5.keep k0p λ_ _=>id).mono (G:=λb=>H.size<=b) λb hb=>hb.1).app hr (by omega) (by rw[zAd,zAt,zBc];omega) (by show H.size<=_;omega) λt h14 b14 k14=>?_
  refine hk6 _ _ _ ⟨ys++[x.1],?_,by rw[zAt,zBc];omega,λy hy'=>?_,?_,((k010.trans k').trans kp).fresh k14 λb hb=>hb⟩
  ·have e:(mv++(ys++[x.1])).map mvC=(mv++ys).map mvC++[mvC x.1]:=by simp
   rw[e]
   exact BufE.re b14 λb hb hF=>⟨hF,hb⟩
  ·rcases zAp.1 hy' with hy'|hy'
   ·exact hy y hy'
   ·rw[zAD.1 hy'];exact⟨x,hm,rfl⟩
  ·rw[zCD,zJh hgm,hf,<- zCD,<- he];simp[zCi]
 rw[ltI,zAa]
 rcases zTK (p:=λo:MV=>decide (o.1.name=x.1.1.name)) (l:=mv) with ⟨e1,e2⟩|⟨j,y,e1,e2,e3⟩
 ·have hout:zYf (zCi mv) x.1.1=true:=by unfold zYf;rw[hfm,e2];rfl
  rw[e1]
  refine zId (by decide) ?_
  show Mpu (zBD (.bool true) (.bool true) undef) _
  rw[zAv,if_pos rfl,zAa,zAl,if_pos rfl]
  exact yes hout h10 _ Keep.refl
 ·have hout:zYf (zCi mv) x.1.1 = !decide (y.1.ver=x.1.1.ver):=by unfold zYf;rw[hfm,e3];rfl
  rw[e1,decide_eq_false (by omega)]
  refine zDo rfl ?_
  obtain⟨hmy,b',o',hix',hpt',_⟩:=(hp.keep k010 λ_ _=>id).at e2
  rw[hix' .i64,zAa,zBf,zAa,zXY hpt' hmy.wf,zAa,zAhk a10 w,zAa,zAlY hmy.wf.ver w.ver,zAa]
  show Mpu (zBD (.bool false) (.bool true) (.bool (!decide (y.1.ver=x.1.1.ver)))) _
  rw[zAv,if_neg (by decide),zAa,zAl]
  cases hq:decide (y.1.ver=x.1.1.ver)
  ·rw[if_pos (by rfl)]
   exact yes (by rw[hout,hq];rfl) h10 _ Keep.refl
  ·rw[if_neg (by decide)]
   exact hk6 _ _ _ (no (by rw[hout,hq];rfl) h10 Keep.refl)
def zL0 (inst:List Man)(nm:List UInt8):List Dep:=(inst.filter λm=>!decide (m.name=nm)).map λm=>⟨m.name,⟨[61],m.ver⟩⟩
theorem zAd3 {op:List UInt8}{x:Ver}(hx:x.wf):zCM prg zBZ [(0,str op),(1,.agg (zEm x).toArray)]=some (.agg (zFC ⟨op,x⟩).toArray):=by
 obtain⟨a,b,c,e⟩:=Ver.cases3 hx
 obtain⟨p,pre⟩:=x
 simp only at e
 subst e
 rw[zHZ zAgT];rfl
theorem zTM {d:Dep}(hd:d.wf):zF6 prg zAL 1 [(0,.agg (zFp d).toArray)]=some (zFp d).toArray :=
 zUn (by kernel_rfl:prg.cellsOf zAL=6) (by omega) (by omega) zAay (zEh zQp) (by simp[zEh hd])
theorem zAd4 {d:Dep}(hd:d.wf):zCM prg zAL [(0,str d.name),(1,.agg (zFC d.want).toArray)]=some (.agg (zFp d).toArray):=by
 obtain⟨a,b,c,e⟩:=Ver.cases3 hd.want.ver
 obtain⟨n,⟨op,⟨p,pre⟩⟩⟩:=d
 simp only at e
 subst e
 rw[zHZ zAl7];rfl
theorem zAaM {P:zA1}{H:zAx}{v:Value}{mv:List MV}{nm:List UInt8}(hp:zLB P H v mv)(hl:mv.length<=1000) :
  zAA prg zMg [v,str nm] H λu H'=>BufE 6 (λb=>H.size<=b/\b<H'.size) H' u ((zL0 (zCi mv) nm).map zFp)/\Keep zAK H H':=by
 apply zQI
 unfold zQU
 let I:Nat->zAm:=λi w h=>BufE 6 (λb=>H.size<=b/\b<h.size) h w ((zL0 ((zCi mv).take i) nm).map zFp)/\Keep zAK H h
 have hln:(zCi mv).length=mv.length:=by simp
 refine zMk (λw _ h=>I mv.length w h) (λk1 hk1=>?_) ?_
 rotate_left
 ·rintro w _ h ⟨b,k⟩
  rw[zAr (by omega)]at b
  exact⟨b,k⟩
 rw[hp.len,zAa]
 refine zUY (λw z h=>∃ i:Nat,i<=mv.length/\z = .int .i64 (i:Nat)/\I i w h) (λ_ z _=>match z with | .int _ t=>mv.length-t.toNat|_=>0) ⟨0,zAz _,rfl,BufE.nil,Keep.refl⟩ ?_
 rintro t5 _ h4 ⟨i,hi,rfl,b4,k4⟩ k3 hk3
 have g4:=k4.1
 rw[zNZ,zAa,zAl]
 by_cases hlt:i<mv.length
 rotate_left
 ·rw[if_neg (by simpa using hlt)]
  obtain rfl:i=mv.length:=by omega
  exact hk1 _ _ _ ⟨b4,k4⟩
 rw[if_pos (by simpa using hlt)]
 have hg:mv[i]? = some mv[i]:=zAj hlt
 generalize mv[i]=x at *
 have hgh:(zCi mv)[i]? = some x.1:=by rw[zAq,hg];rfl
 obtain⟨hmx,b,o,hix,hpt,_⟩:=(hp.keep k4 λ_ _=>id).at hg
 have w:=hmx.wf
 refine zOt (λw h=>I (i+1) w h) (λk5 hk5=>?_) ?_
 rotate_left
 ·rintro w' h6 hI
  rw[zBV (by omega),zAa]
  exact hk3 _ _ _ ⟨i+1,by omega,rfl,hI⟩ (by show mv.length-(i+1)<mv.length-i;omega)
 rw[hix .i64,zAa,zM7 hpt w,zAa]
 simp only[zL8,zBb]
 generalize hH7:h4.push (.cells (zGN ⟨[],zEc,[],[],[]⟩ zCn zCn zCn).toArray zAe (0,0))=h7
 have k7:Keep zAK h4 h7:=by rw[<- hH7];exact Keep.push
 have a7:At h7 h4.size (zGN ⟨[],zEc,[],[],[]⟩ zCn zCn zCn):=by rw[<- hH7];exact At.push
 obtain⟨h8,st8,a8,k8⟩:=a7.st (n:=8) (ds:=mvC x) (zBB zOr) (zBB w) (zFP hmx)
 have k48:Keep zAK h4 h8:=k7.fresh k8 λb hb=>by omega
 have k08:=k4.trans k48
 have g48:=k48.1
 simp only[zBf,zAi,zAu,zAa]
 rw[st8,zAW,zDz a8,zAa,zWr,zAa,zAl]
 have hot:zL0 ((zCi mv).take (i+1)) nm=zL0 ((zCi mv).take i) nm++(if (!decide (x.1.name=nm))=true then [⟨x.1.name,⟨[61],x.1.ver⟩⟩] else []):=by
  unfold zL0
  rw[zJh hgh,zAF]
  congr 1
  split<;>rfl
 have hol:(zL0 ((zCi mv).take i) nm).length<=1000:=by
  unfold zL0
  rw[zAd]
  have h1:=zBi (λm:Man=>!decide (m.name=nm)) ((zCi mv).take i)
  rw[zA4]at h1
  omega
 cases hq:decide (x.1.name=nm)
 rotate_left
 ·rw[if_neg (by decide)]
  rw[hq]at hot
  refine hk5 _ _ ⟨?_,k08⟩
  rw[hot]
  simp only[zAg,zAb,if_false,zAP]
  exact(b4.keep k48 λ_ _=>id).mono λb hb=>by omega
 ·rw[if_pos (by rfl),zAa,zHu a8 w,zAa]
  rw[hq]at hot
  have s61:(Value.string ⟨#[61]⟩)=str [61]:=rfl
  let d:Dep:=⟨x.1.name,⟨[61],x.1.ver⟩⟩
  have hd:d.wf:=⟨⟨w.ver,by simp[d]⟩,w.name⟩
  rw[s61,zAd3 w.ver,zAa]
  show Mpu (zCM prg zAL [(0,str d.name),(1,.agg (zFC d.want).toArray)]) _
  rw[zAd4 hd,zAa,zTM hd,zCo]
  have hr:=zM9 (T:=zAL) (h:=h8) (n:=6) (zEh hd) (zLc (d:=d))
  have kp:Keep zAK h8 (h8.push (.cells (zFp d).toArray zAL (0,0))):=Keep.push
  have gp:=kp.1
  refine(((b4.keep k48 λ_ _=>id).keep kp λ_ _=>id).mono (G:=λb=>H.size<=b) λb hb=>hb.1).app hr (by omega) (by rw[zAd,zBc];omega) (by show H.size<=_;omega) λt h10 b10 k10=>?_
  refine hk5 _ _ ⟨?_,(k08.trans kp).fresh k10 λb hb=>hb⟩
  rw[hot]
  simp only[zAf,if_true,zAF,zA0,List.map_nil]
  exact BufE.re b10 λb hb hF=>⟨hF,hb⟩
structure zSe where
 kind:Int
 name:List UInt8
 want:zTn
 bound:Int
structure zSe.wf (a:zSe):Prop where
 name:a.name.length<=9223372036854775807
 want:a.want.wf
def zVN (a:zSe):List Value:=[.int .i64 a.kind,str a.name]++zFC a.want++[.int .i64 a.bound]
theorem zAaN {a:zSe}(h:a.wf):(zVN a).length=8:=by simp[zVN,zGM h.want]
section
variable {h:zAx} {q:Nat} {a:zSe}
theorem zOU (p:At h q (zVN a)):ld1 h (Ptr q 0)=some (.int .i64 a.kind):=p.ld rfl
theorem zTN (p:At h q (zVN a)):ld1 h (Ptr q 1)=some (str a.name):=p.ld rfl
theorem zAaO (p:At h q (zVN a))(w:a.wf):Go.X.ldN 5 h (Ptr q 2)=some (Value.agg (zFC a.want).toArray):=by
 obtain⟨T,p⟩:=p
 exact ldN_mid (A:=[.int .i64 a.kind,str a.name]) (B:=zFC a.want) (C:=[.int .i64 a.bound]) p rfl (zGM w.want).symm
theorem zUG (p:At h q (zVN a))(w:a.wf):ld1 h (Ptr q 7)=some (.int .i64 a.bound):=p.ld (by
 have:=zGM w.want
 unfold zVN
 rw[zBe (by simp[this]),zAt,this];rfl)
end
def zUH (a:zSe):Bool:=if a.kind=1 then zH6 a.want else decide (a.want=zWx)
def zRo (a:zSe):Bool:=decide (a.kind>=1)&&decide (a.kind<=3)&&zJv a.name&&zUH a&&decide (a.bound>=0)&&decide (a.bound<=65536)
theorem leI {x y:Int}:zAB .no .leq (.int .i64 x) (.int .i64 y)=some (.bool (decide (x<=y))):=by rw[zAJ];rfl
set_option maxHeartbeats 1000000 in
theorem zAbG {H:zAx}{a:zSe}(w:a.wf)(hO:zQW H):zAA prg zLF [.agg (zVN a).toArray] H λu H'=>u = .bool (zRo a)/\Keep zAK H H':=by
 apply zOG
 unfold zOe
 simp only[zB8,zBb,zBf,zAi,zAu,zAa,zAnr]
 generalize hH1:H.push (.cells (zVN a).toArray zJj (0,0))=H1
 have k1:Keep zAK H H1:=by rw[<- hH1];exact Keep.push
 have a1:At H1 H.size (zVN a):=by rw[<- hH1];exact At.push
 rw[zAaO a1 w,zAa,zAke w.want zTE,zAa]
 refine zOt (λu h=>u = .bool (zUH a)/\Keep zAK H1 h) (λk2 hk2=>?_) ?_
 ·rw[zOU a1,zAa,eqI,zAa,zAl]
  unfold zUH at hk2
  by_cases e:a.kind=1
  ·rw[if_pos e]at hk2
   rw[if_pos (by simpa using e),zAa]
   refine zAI (zM3 w.want (hO.keep k1 λ_ h=>h.elim)) ?_
   rintro _ h ⟨rfl,k⟩
   exact hk2 _ _ ⟨rfl,k⟩
  ·rw[if_neg e]at hk2
   rw[if_neg (by simpa using e)]
   exact hk2 _ _ ⟨rfl,Keep.refl⟩
 rintro _ h3 ⟨rfl,k3⟩
 have a3:=a1.keep k3 id
 have k03:=k1.trans k3
 unfold zRo
 rw[zOU a3,zAa,geI,zAa]
 cases q1:decide (a.kind>=1)
 ·simp only[zBT,zAQ,zAU,zAb,if_false,zAv,zAa,zA2]
  exact⟨by trivial,k03⟩
 refine zDo rfl ?_
 rw[zAa,leI,zAa]
 show Mpu (zBD (.bool true) (.bool (decide (a.kind<=3))) (.bool false)) _
 rw[zAv,if_pos rfl,zAa]
 cases q2:decide (a.kind<=3)
 ·simp only[zBT,zAQ,zAU,zAb,if_false,zAv,zAa,zA2,zBG]
  exact⟨by trivial,k03⟩
 refine zDo rfl ?_
 rw[zTN a3,zAa]
 refine zAI (zZ3 w.name) ?_
 rintro _ h8 ⟨rfl,k8⟩
 have a8:=a3.keep k8 id
 have k08:=k03.trans k8
 rw[zAv,if_pos rfl,zAa]
 cases q3:zJv a.name
 ·simp only[zBT,zAQ,zAU,zAb,if_false,zAv,zAa,zA2,zBG]
  exact⟨by trivial,k08⟩
 refine zDo rfl ?_
 show Mpu (zBD (.bool true) (.bool (zUH a)) (.bool false)) _
 rw[zAv,if_pos rfl,zAa]
 cases q4:zUH a
 ·simp only[zBT,zAQ,zAU,zAb,if_false,zAv,zAa,zA2,zBG]
  exact⟨by trivial,k08⟩
 refine zDo rfl ?_
 rw[zUG a8 w,zAa,geI,zAa]
 show Mpu (zBD (.bool true) (.bool (decide (a.bound>=0))) (.bool false)) _
 rw[zAv,if_pos rfl,zAa]
 cases q5:decide (a.bound>=0)
 ·simp only[zBT,zAQ,zAU,zAb,if_false,zAv,zAa,zA2,zBG]
  exact⟨by trivial,k08⟩
 refine zDo rfl ?_
 rw[zUG a8 w,zAa,leI,zAa]
 show Mpu (zBD (.bool true) (.bool (decide (a.bound<=65536))) (.bool false)) _
 rw[zAv,if_pos rfl,zAa]
 exact⟨by simp,k08⟩
theorem zAd5 {P:zA1}{H:zAx}{mv:List MV}{wants:List Dep}{vh vw:Value}{b:Int}(hp:Prb P H mv wants vh vw)(hok:zIV (zCi mv) wants b=false)(hl:mv.length<=256)(hwl:wants.length<=64)(hO:zQW H) :
  zAA prg zMe [.agg (zN0 vh vw b).toArray] H λu H'=>u = .tuple #[.slice none 0 0,.int .i64 0,.int .i64 10]/\Keep zAK H H':=by
 apply zL5
 unfold zNO
 simp only[zB8,zBb]
 have k1:Keep zAK H (H.push (.cells (zN0 vh vw b).toArray zB3 (0,0))):=Keep.push
 have a1:At (H.push (.cells (zN0 vh vw b).toArray zB3 (0,0))) H.size (zN0 vh vw b):=At.push
 rw[a1.ldN (n:=3) rfl,zAa]
 refine zAI (zAdr (hp.keep k1 λ_ _=>id) hl hwl (hO.keep k1 λ_ h=>h.elim)) ?_
 rintro _ h2 ⟨rfl,k2⟩
 rw[hok,if_neg (by decide),neI,zAa,zAl,if_pos (by decide)]
 exact⟨rfl,k1.trans k2⟩
def ChR (hv:List Man)(wants:List Dep)(b:Int)(PP:zA1)(H H':zAx)(u:Value):Prop :=
 (zIV hv wants b=false/\u = .tuple #[.slice none 0 0,.int .i64 10]) \/
 (zIV hv wants b=true/\∃ (r:Res) (s:Nat),Run hv b.toNat (.sol [] wants) 0 r s/\match r with
  | .ok l=>zKg hv l/\∃ t goal Fg,u = .tuple #[t,.int .i64 0]/\zCi goal=(zG8 hv l).map (gM hv)/\BufE 8 Fg H' t (goal.map mvC)/\(∀ b,Fg b->H.size<=b/\b<H'.size)/\(∀ x∈goal,zLd (λb=>PP b/\¬ Fg b) H' x.1 x.2.1 x.2.2.1 x.2.2.2)/\∀ x∈goal,x.1.deps.length<=1000/\x.1.conf.length<=1000
  | .fail=>u = .tuple #[.slice none 0 0,.int .i64 40]
  | .over=>u = .tuple #[.slice none 0 0,.int .i64 42])
theorem zAhm {v:Value}{b:Int}(hv:v.oneCell'=true):zCM prg zB3 [(0,v),(2,.int .i64 b)]=some (.agg (zN0 v zCn b).toArray):=by
 have k:zLM prg zB3=some ([(0,1),(1,1),(2,1)],(zN0 zCn zCn 0).toArray):=by kernel_rfl
 have hc:v.cells=#[v]:=by
  cases v<;>first|rfl|(simp[Value.oneCell']at hv)
 rw[zHZ k,zGH (off:=0) (n:=1) rfl (by rw[hc];rfl) (by simp[zN0]),zGH (off:=2) (n:=1) rfl rfl (by rw[hc];simp[zN0,spl]),zRK,hc]
 rfl
theorem zAkW:zBI prg zB3=some (zN0 zCn zCn 0).toArray:=by kernel_rfl
theorem zAd6 {n:Nat}{F:zA1}{T:TypeId}{h:zAx}{x:List Value}(hx:x.length=n)(h1:∀ c∈x,c.oneCell'=true)(hF:F h.size):BufE n F (h.push (.cells x.toArray T (0,0))) (.slice (some ⟨h.size,0,none⟩) 1 1) [x] :=
 ⟨λy hy=>by rw[zAD.1 hy];exact hx,λy hy=>by rw[zAD.1 hy];exact h1,.inr ⟨h.size,0,1,x.toArray,T,(0,0),rfl,hF,zAh _,zCj,by simp[hx],λ_ _=>zLL,by
  have:x.take n=x:=zAr (by omega)
  simpa [hx] using this⟩⟩
def zTs (inst:List Man)(nm:List UInt8)(w:zTn):List Dep:=⟨nm,w⟩::zL0 inst nm
set_option maxHeartbeats 4000000 in
theorem zAfZ {P R:zA1}{p:Nat}{l:List Pk}{H:zAx}{v:Value}{mv:List MV}{a:zSe}{w:zTn}(hp:zLB P H v mv)(q:zPr R p l H)(hP:∀ b,P b->b<H.size)(ha:a.wf)(hw:w.wf)(hl:mv.length+l.length<=40)(hO:zQW H) :
  zAA prg zOy [v,Ptr p 0,.agg (zVN a).toArray,.agg (zFC w).toArray] H λu H'=>ChR (zDN (zCi mv) l) (zTs (zCi mv) a.name w) a.bound (λb=>P b\/R b\/(H.size<=b/\b<H'.size)) H H' u/\Keep zAK H H':=by
 apply zQF
 unfold zQR
 simp only[zB8,zBb,zBf,zAi,zAu,zAa,zAkW]
 generalize hH1:H.push (.cells (zVN a).toArray zJj (0,0))=H1
 have k1:Keep zAK H H1:=by rw[<- hH1];exact Keep.push
 have a1:At H1 H.size (zVN a):=by rw[<- hH1];exact At.push
 have s1:H1.size=H.size+1:=by rw[<- hH1];simp
 generalize hH2:H1.push (.cells (zFC w).toArray zBZ (0,0))=H2
 have k2:Keep zAK H1 H2:=by rw[<- hH2];exact Keep.push
 have a2:At H2 H1.size (zFC w):=by rw[<- hH2];exact At.push
 have s2:H2.size=H1.size+1:=by rw[<- hH2];simp
 have k02:=k1.trans k2
 have a12:=a1.keep k2 id
 have hR:∀ b,R b->b<H.size:=by obtain⟨_,_,_,_,_,_,_,_,_,_,_,h⟩:=q;exact h
 have dB:∀ h,Keep zAK H2 h->ld1 h (Ptr H.size 7)=some (.int .i64 a.bound):=λh k=>zUG (a12.keep k id) ha
 have dN:∀ h,Keep zAK H2 h->ld1 h (Ptr H.size 1)=some (str a.name):=λh k=>zTN (a12.keep k id)
 have dW:∀ h,Keep zAK H2 h->ldN 5 h (Ptr H1.size 0)=some (.agg (zFC w).toArray):=λh k=>(a2.keep k id).ldN (zGM hw)
 let inst:=zCi mv
 have hil:inst.length=mv.length:=by simp[inst]
 have hthere:(zDN inst l).length<=40:=by
  unfold zDN
  have h1:=zBi (zYf inst) (l.map (·.1))
  rw[zAd]at h1
  rw[zAt];omega
 have hoth:(zL0 inst a.name).length<=40:=by
  unfold zL0
  have h1:=zBi (λm:Man=>!decide (m.name=a.name)) inst
  rw[zAd];omega
 let PQ:Nat->zAx->zA1:=λz h b=>(P b\/R b\/H2.size<=b)/\b<h.size/\b≠z
 let I1:zAm:=λx h=>∃ z vh mv',x=Ptr z 0/\At h z (zN0 vh zCn a.bound)/\zCi mv'=zDN inst l/\zLB (PQ z h) h vh mv'/\H2.size<=z/\Keep zAK H2 h
 have mre:∀ {Q Q':zA1} {h:zAx} {u:Value} {ml:List MV},zLB Q h u ml->(∀ b,Q b->Q' b)->zLB Q' h u ml:=λm k=>⟨m.h.mono k,λx hx=>(m.m x hx).mono k,m.sm⟩
 refine zOt I1 (λk3 hk3=>?_) ?_
 ·rw[dB _ Keep.refl,zAa]
  refine⟨?_,?_⟩
  ·refine zAI (zWQ (hp.keep k02 λ_ _=>id) (q.keep k02 λ_ _=>id) (by omega) (by omega)) ?_
   rintro t19 h4 ⟨⟨mv',he,hm⟩,k4⟩
   have g4:=k4.1
   have o19:t19.oneCell'=true:=hm.h.oneC
   rw[dB _ k4,zBp,zA8,zAhm o19,zAa]
   generalize hH5:h4.push (.cells (zN0 zCn zCn 0).toArray zB3 (0,0))=h5
   have k5:Keep zAK h4 h5:=by rw[<- hH5];exact Keep.push
   have a5:At h5 h4.size (zN0 zCn zCn 0):=by rw[<- hH5];exact At.push
   have s5:h5.size=h4.size+1:=by rw[<- hH5];simp
   obtain⟨h6,st6,a6,k6⟩:=a5.st (n:=3) (ds:=zN0 t19 zCn a.bound) rfl rfl (λc hc=>by
    simp only[zN0,zAs,zCL,or_false]at hc
    rcases hc with rfl|rfl|rfl
    ·exact o19
    ·rfl
    ·rfl)
   have g6:=k6.1
   rw[dB _ (k4.trans k5),zBp,zA8,st6,zAW]
   refine hk3 _ _ ⟨h4.size,t19,mv',rfl,a6,he,mre ((hm.keep k5 λ_ _=>id).keep k6 λb hb e=>?_) λb hb=>?_,g4,(k4.trans k5).fresh k6 λb hb=>by omega⟩
   ·subst e
    rcases hb with h|h|h
    ·have:=hP _ h;omega
    ·have:=hR _ h;omega
    ·omega
   ·rcases hb with h|h|h
    ·have:=hP _ h;exact⟨.inl h,by omega,by omega⟩
    ·have:=hR _ h;exact⟨.inr (.inl h),by omega,by omega⟩
    ·exact⟨.inr (.inr h.1),by omega,by omega⟩
  ·generalize hH7:H2.push (.cells (zN0 zCn zCn 0).toArray zB3 (0,0))=h7
   have k7:Keep zAK H2 h7:=by rw[<- hH7];exact Keep.push
   have a7:At h7 H2.size (zN0 zCn zCn 0):=by rw[<- hH7];exact At.push
   have s7:h7.size=H2.size+1:=by rw[<- hH7];simp
   rw[dB _ k7,zBp,zA8]
   refine zAI (zWQ (hp.keep (k02.trans k7) λ_ _=>id) (q.keep (k02.trans k7) λ_ _=>id) (by omega) (by omega)) ?_
   rintro t19 h8 ⟨⟨mv',he,hm⟩,k8⟩
   have g8:=k8.1
   have o19:t19.oneCell'=true:=hm.h.oneC
   rw[dB _ (k7.trans k8),zBp,zA8,zAhm o19,zAa]
   obtain⟨h9,st9,a9,k9⟩:=(a7.keep k8 id).st (n:=3) (ds:=zN0 t19 zCn a.bound) rfl rfl (λc hc=>by
    simp only[zN0,zAs,zCL,or_false]at hc
    rcases hc with rfl|rfl|rfl
    ·exact o19
    ·rfl
    ·rfl)
   have g9:=k9.1
   rw[st9,zAW]
   refine hk3 _ _ ⟨H2.size,t19,mv',rfl,a9,he,mre (hm.keep k9 λb hb e=>?_) λb hb=>?_,zAh _,(k7.trans k8).fresh k9 λb hb=>by omega⟩
   ·subst e
    rcases hb with h|h|h
    ·have:=hP _ h;omega
    ·have:=hR _ h;omega
    ·omega
   ·rcases hb with h|h|h
    ·have:=hP _ h;exact⟨.inl h,by omega,by omega⟩
    ·have:=hR _ h;exact⟨.inr (.inl h),by omega,by omega⟩
    ·exact⟨.inr (.inr (by omega)),by omega,by omega⟩
 rintro _ h10 ⟨z,vh,mv',rfl,a10,he,hm10,hz,k10⟩
 have g10:=k10.1
 have hd:(⟨a.name,w⟩:Dep).wf:=⟨hw,ha.name⟩
 have lz:=a10.lt
 let wants:=zTs inst a.name w
 let I2:zAx->Prop:=λh=>∃ vw,At h z (zN0 vh vw a.bound)/\SlE 6 (λb=>h10.size<=b/\b<h.size) h vw (wants.map zFp)/\Keep (· = z) h10 h
 have hpk:∀ h,Keep zAK H2 h->zLB P h v mv:=λh k=>hp.keep (k02.trans k) λ_ _=>id
 have fin:∀ (t27 t31:Value) (h13:zAx),BufE 6 (λb=>h10.size<=b) h13 t27 [zFp ⟨a.name,w⟩]->SlE 6 (λb=>h10.size<=b) h13 t31 ((zL0 inst a.name).map zFp)->Keep zAK h10 h13->(∀ h,I2 h->∀ k:zAx->Prop,(∀ h,I2 h->k h)->k h) ->
   ∀ k11:zAx->Prop,(∀ h,I2 h->k11 h)->zIw zAL 6 72 h13 t27 t31 λt32 h14=>Mwr (st1 h14 (Ptr z 1) t32) λh15=>k11 h15:=λt27 t31 h13 b27 b31 k13 _ k11 hk11=>by
  have g13:=k13.1
  refine b27.app b31 (by omega) (by rw[zBc,zAd];omega) (by show h10.size<=h13.size;omega) λt32 h14 b14 k14=>?_
  obtain⟨h15,st15,a15,k15⟩:=((a10.keep k13 id).keep k14 λhb=>by omega).st1 (i:=1) (v:=t32) (by simp[zN0]) b14.sl.oneC
  rw[st15,zAW]
  have g15:=k15.1
  refine hk11 _ ⟨t32,a15,((BufE.re b14 (G:=λb=>h10.size<=b/\b<h14.size) λb h1 h2=>⟨h2,h1⟩).sl.keep k15 λb hb e=>by omega).mono λb hb=>by omega,?_⟩
  exact(((k13.mono λ_ _ h=>h.elim).fresh' k14 λb hb => .inr hb).trans k15)
 refine zAjv I2 (λk11 hk11=>?_) ?_
 ·rw[dN _ k10,zAa,dW _ k10,zAa]
  show Mpu (zCM prg zAL [(0,str (⟨a.name,w⟩:Dep).name),(1,.agg (zFC (⟨a.name,w⟩:Dep).want).toArray)]) _
  rw[zAd4 hd,zAa,zAa]
  simp only[zBf,zAi,zAa]
  refine⟨?_,?_⟩
  ·rw[zTM hd,zCo]
   have kp:Keep zAK h10 (h10.push (.cells (zFp ⟨a.name,w⟩).toArray zAL (0,0))):=Keep.push
   have hb:=zAd6 (T:=zAL) (h:=h10) (n:=6) (F:=λb=>h10.size<=b) (zEh hd) zLc (zAh _)
   generalize h10.push (.cells (zFp ⟨a.name,w⟩).toArray zAL (0,0))=h12 at *
   rw[dN _ (k10.trans kp),zBp,zA8]
   refine zAI (zAaM (hpk _ (k10.trans kp)) (by omega)) ?_
   rintro t31 h13 ⟨b31,k13⟩
   have gp:=kp.1
   rw[dW _ ((k10.trans kp).trans k13),dN _ ((k10.trans kp).trans k13),zBp,zBp,zA8]
   exact fin _ _ _ (hb.keep k13 λ_ _=>id) (b31.sl.mono λb hb=>by show h10.size<=b;omega) (kp.trans k13) (λh hI k hk=>hk h hI) k11 hk11
  ·refine zAI (zAaM (hpk _ k10) (by omega)) ?_
   rintro t31 h16 ⟨b31,k16⟩
   rw[dW _ (k10.trans k16),dN _ (k10.trans k16),zBp,zBp,zA8,zTM hd,zCo]
   have g16:=k16.1
   have kp:Keep zAK h16 (h16.push (.cells (zFp ⟨a.name,w⟩).toArray zAL (0,0))):=Keep.push
   have hb:=zAd6 (T:=zAL) (h:=h16) (n:=6) (F:=λb=>h10.size<=b) (zEh hd) zLc (show h10.size<=h16.size by omega)
   generalize hv27:Value.slice (some ⟨h16.size,0,none⟩) 1 1=t27 at *
   generalize h16.push (.cells (zFp ⟨a.name,w⟩).toArray zAL (0,0))=h17 at *
   rw[dN _ ((k10.trans k16).trans kp),zBp,zA8]
   exact fin _ _ _ hb ((b31.sl.keep kp λ_ _=>id).mono λb hb=>by show h10.size<=b;omega) (k16.trans kp) (λh hI k hk=>hk h hI) k11 hk11
 rintro h20 ⟨vw,a20,w20,k20⟩
 have g20:=k20.1
 rw[a20.ldN (n:=3) rfl,zAa]
 have k220:Keep zAK H2 h20:=k10.fresh k20 λb hb=>by omega
 have k020:=k02.trans k220
 let PS:zA1:=λb=>(P b\/R b\/H2.size<=b)/\b<h20.size
 have hm20:zLB (PQ z h10) h20 vh mv':=hm10.keep k20 λb hb=>hb.2.2
 have hml:mv'.length<=40:=by
  have:(zCi mv').length=mv'.length:=by simp
  rw[<- this,he];exact hthere
 have hwf:∀ d∈wants,d.wf:=λd hd'=>by
  rcases zAs.1 hd' with rfl|hd'
  ·exact hd
  ·obtain⟨m,hm,rfl⟩:=zAo.1 hd'
   obtain⟨hm,_⟩:=zBd.1 hm
   obtain⟨x,hx,rfl⟩:=zAo.1 hm
   have wx:=(hp.m x hx).wf
   exact⟨⟨wx.ver,by simp⟩,wx.name⟩
 have prb:Prb PS h20 mv' wants vh vw:=⟨hm20.h.mono λb hb=>⟨hb.1,by have:=hb.2.1;omega⟩,λx hx=>(hm20.m x hx).mono λb hb=>⟨hb.1,by have:=hb.2.1;omega⟩,w20.mono λb hb=>⟨.inr (.inr (by omega)),hb.2⟩,hwf,hm20.sm⟩
 have hwl:wants.length<=64:=by show(zL0 inst a.name).length+1<=64;omega
 have hO20:zQW h20:=hO.keep k020 λ_ h=>h.elim
 have x0:∀ a b c:Value,zE0 0 (.tuple #[a,b,c])=some a:=λ_ _ _=>rfl
 have x1:∀ a b c:Value,zE0 1 (.tuple #[a,b,c])=some b:=λ_ _ _=>rfl
 have x2:∀ a b c:Value,zE0 2 (.tuple #[a,b,c])=some c:=λ_ _ _=>rfl
 have hhe:zCi mv'=zDN (zCi mv) l:=he
 cases hok:zIV (zCi mv') wants a.bound
 ·refine zAI (zAd5 prb hok (by omega) hwl hO20) ?_
  rintro _ h21 ⟨rfl,k21⟩
  rw[x0,zAa,x1,zAa,x2,zAa,neI,zAa,zAl,if_pos (by decide)]
  exact⟨.inl ⟨by rw[<- hhe];exact hok,rfl⟩,k020.trans k21⟩
 refine zAI (zAiU prb (λb hb=>hb.2) hok hml hwl hO20) ?_
 rintro u h21 ⟨⟨r,s,hrun,hu⟩,k21⟩
 have k021:=k020.trans k21
 have g21:=k21.1
 have g020:=k020.1
 rw[hhe]at hrun hok hu
 cases r with
 | fail =>
  obtain rfl:=hu
  rw[x0,zAa,x1,zAa,x2,zAa,neI,zAa,zAl,if_pos (by decide)]
  exact⟨.inr ⟨hok,.fail,s,hrun,rfl⟩,k021⟩
 | over =>
  obtain rfl:=hu
  rw[x0,zAa,x1,zAa,x2,zAa,neI,zAa,zAl,if_pos (by decide)]
  exact⟨.inr ⟨hok,.over,s,hrun,rfl⟩,k021⟩
 | ok ks =>
  obtain⟨hns,t37,rfl,b37⟩:=hu
  rw[x0,zAa,x1,zAa,x2,zAa,neI,zAa,zAl,if_neg (by decide)]
  have hm21:zLB (PQ z h10) h21 vh mv':=hm20.keep k21 λ_ _=>id
  have a21:=a20.keep k21 id
  let sl:=zG8 (zDN (zCi mv) l) ks
  have hsn:zKg (zDN (zCi mv) l) sl:=hns.sorted
  have hthl:(zDN (zCi mv) l).length=mv'.length:=by rw[<- hhe];simp
  have hsl:sl.length<=40:=by have:=hsn.len;omega
  have hlen:=b37.sl.len
  rw[zNC,zQY]at hlen
  let I:Nat->zAm:=λi t h=>∃ goal,zCi goal=(sl.take i).map (gM (zDN (zCi mv) l))/\BufE 8 (λb=>h21.size<=b/\b<h.size) h t (goal.map mvC)/\(∀ x∈goal,x∈mv')/\Keep zAK h21 h
  refine zMk (λt _ h=>I sl.length t h) (λk22 hk22=>?_) ?_
  rotate_left
  ·rintro t _ h ⟨goal,hg,hb,hmm,kh⟩
   rw[zAr (zAh _)]at hg
   have gh:=kh.1
   refine⟨.inr ⟨hok,.ok ks,s,hrun,hns,t,goal,λb=>h21.size<=b/\b<h.size,rfl,hg,hb,λb hb=>by omega,λx hx=>?_,λx hx=>hm21.sm x (hmm x hx)⟩,k021.trans kh⟩
   exact((hm21.m x (hmm x hx)).keep kh λ_ _=>id).mono λb hb=>by
    have h3:=hb.2.1
    refine⟨?_,λhh=>by omega⟩
    rcases hb.1 with h|h|h
    ·exact .inl h
    ·exact .inr (.inl h)
    ·exact .inr (.inr ⟨by omega,by omega⟩)
  rw[hlen,zAa]
  refine zUY (λt y h=>∃ i:Nat,i<=sl.length/\y = .int .i64 (i:Nat)/\I i t h) (λ_ y _=>match y with | .int _ t=>sl.length-t.toNat|_=>0) ⟨0,zAz _,rfl,[],rfl,BufE.nil,λx hx=>(by cases hx),Keep.refl⟩ ?_
  rintro t14 _ h25 ⟨i,hi,rfl,goal,hg,hb,hmm,kh⟩ k24 hk24
  have gh:=kh.1
  rw[zNZ,zAa,zAl]
  by_cases hlt:i<sl.length
  rotate_left
  ·rw[if_neg (by simpa using hlt)]
   obtain rfl:i=sl.length:=by omega
   exact hk22 _ _ _ ⟨goal,hg,hb,hmm,kh⟩
  rw[if_pos (by simpa using hlt)]
  have hgl:sl[i]? = some sl[i]:=zAj hlt
  have hkl:=hsn.1 _ (zAH hlt)
  generalize sl[i]=k at *
  obtain⟨b1,o1,hix1,hpt1,_⟩:=(b37.sl.keep kh λ_ _=>id).at (i:=i) (x:=[.int .i64 ((k:Nat):Int)]) (zSa (zAkA hgl))
  rw[hix1 .i64,zAa,hpt1.cell0 rfl,zAa,zBf,zAa,zAi,(a21.keep kh id).ld (i:=0) rfl,zAa]
  have hgk:mv'[k]? = some (mv'[k]'(by omega)):=zAj (by omega)
  have hkm:=zAH (show k<mv'.length by omega)
  generalize mv'[k]'(by omega)=x at *
  have hgm:gM (zDN (zCi mv) l) k=x.1:=by rw[<- hhe];exact zZc hgk
  obtain⟨hmx,b2,o2,hix2,hpt2,_⟩:=(hm21.keep kh λ_ _=>id).at hgk
  have wx:=hmx.wf
  rw[hix2 .i64,zAa,zM7 hpt2 wx,zAa,zNY (zBB wx),zCo]
  have hr:=zM9 (T:=zAe) (h:=h25) (n:=8) (zBB wx:(mvC x).length=8) (zFP hmx)
  have kp:Keep zAK h25 (h25.push (.cells (mvC x).toArray zAe (0,0))):=Keep.push
  have gp:=kp.1
  have hgoal:goal.length=i:=by
   have:=congrArg List.length hg
   rw[zAd,zAd,zA4]at this;omega
  refine((hb.keep kp λ_ _=>id).mono (G:=λb=>h21.size<=b) λb hb=>hb.1).app hr (by omega) (by rw[zAd,zBc];omega) (by show h21.size<=_;omega) λt h27 b27 k27=>?_
  rw[zBV (by omega),zAa]
  refine hk24 _ _ _ ⟨i+1,by omega,rfl,goal++[x],?_,?_,λy hy=>?_,?_⟩ (by show sl.length-(i+1)<sl.length-i;omega)
  ·rw[zAG,hgl,zAF,<- hg]
   simp[zCi,hgm]
  ·rw[show(goal++[x]).map mvC=goal.map mvC++[mvC x] by simp]
   exact BufE.re b27 λb h1 h2=>⟨h2,h1⟩
  ·rcases zAp.1 hy with hy|hy
   ·exact hmm y hy
   ·rw[zAD.1 hy];exact hkm
  ·exact(kh.trans kp).fresh k27 λb hb=>hb
open Go.Sort (swp PermIn SortedIn Below SWO)
instance:Inhabited MV:=⟨(⟨[],zEc,[],[],[]⟩,zCn,zCn,zCn)⟩
def zZp (x y:MV):Bool:=decide (zJH x.1.name y.1.name<0)
theorem zAi4:SWO zZp:=zAdK zFb λx:MV=>x.1.name
def zUI (l:List MV):Prop:=l.Pairwise λx y=>zJH x.1.name y.1.name<0
theorem zAf0 {l l':List MV}(hr:zUI l)(hp:l'.Perm l)(hs:l'.Pairwise (λx y=>zZp y x=false)):l'=l:=by
 have hs2:l.Pairwise (λx y=>zZp y x=false):=hr.imp λ{a b} h=>by
  unfold zZp
  have:=zFb.turn a.1.name b.1.name
  rw[decide_eq_false];omega
 refine zSX (λa ha b hb h1 h2=>?_) hp hs hs2
 have ha':=hp.mem_iff.1 ha
 have hb':=hp.mem_iff.1 hb
 obtain⟨i,hi,rfl⟩:=zBK ha'
 obtain⟨j,hj,rfl⟩:=zBK hb'
 have hq:=zBH.1 hr
 unfold zZp at h1 h2
 rcases Nat.lt_trichotomy i j with h|h|h
 ·have:=hq i j hi hj h
  simp[this]at h1
 ·subst h;rfl
 ·have:=hq j i hj hi h
  simp[this]at h2
theorem zAd7 {F:zA1}{H:zAx}{v:Value}{l:List MV}(hv:BufE 8 F H v (l.map mvC))(hr:zUI l)(hF:∀ b,F b->b<H.size)(hl:l.length<=900000) :
  zAA prg zCN [v,.func (.func zFq) #[] #[]] H λ_ H'=>BufE 8 F H' v (l.map mvC)/\Keep F H H':=by
 apply zEA
 unfold zDA
 have hlen:=hv.sl.len
 rw[zAd]at hlen
 let fv:Value := .func (.func zFq) #[] #[]
 have hcE:zAmh (Ev8 mvC) fv zZp (λ_=>True):=λx y h _=>by
  refine zAaG (x:=x) (y:=y) λh' k=>⟨⟨_,rfl,rfl⟩,k⟩
 have ok:zIW (zLA fv) mvC (Ev8 mvC) zZp (λ_=>True) F v:=⟨λhr _ hi=>zWK hr hi,λhr _ _ hi hj=>zAdC hr hi hj,λhg hk=>zAg5 hcE hg hk⟩
 rw[hlen,zAa,zAdL (by omega),zAa]
 refine zAI (zAhc (by omega)) ?_
 rintro _ _ ⟨⟨m,rfl,hm⟩,rfl⟩
 refine zAI (zZk (zPq fv) ok zAi4 (l:=l) (m:=m) hv (λ_ _=>trivial) hF hl hm) ?_
 rintro _ H' ⟨⟨l',h1,h2,h3⟩,k⟩
 rw[zAf0 hr h1 h2]at h3
 exact⟨h3,k⟩
def Own (n0:Nat)(col:Nat->Nat)(k:Nat)(h:zAx)(b:Nat):Prop:=col b=k/\n0<=b/\b<h.size
def zJz (col:Nat->Nat)(h:zAx)(k:Nat)(b:Nat):Nat:=if b<h.size then col b else k
theorem Own.ext {n0:Nat}{col:Nat->Nat}{k j:Nat}{h h':zAx}{b:Nat}(o:Own n0 col k h b)(hs:h.size<=h'.size):Own n0 (zJz col h j) k h' b :=
 ⟨by unfold zJz;rw[if_pos o.2.2];exact o.1,o.2.1,zAM o.2.2 hs⟩
theorem Own.new {n0:Nat}{col:Nat->Nat}{k:Nat}{h h':zAx}{b:Nat}(hn:n0<=h.size)(h1:h.size<=b)(h2:b<h'.size):Own n0 (zJz col h k) k h' b :=
 ⟨by unfold zJz;rw[if_neg (by omega)],by omega,h2⟩
theorem zAi5 {n n0 sz k:Nat}{T:TypeId}{P:zA1}{col:Nat->Nat}{h:zAx}{v x:Value}{xs ys:List (List Value)}{K:zAm}(b:BufE n (Own n0 col k h) h v xs)(hx:SlE n P h x ys)(h0:0<sz)(hlen:(xs.length+ys.length)*sz<=140737488355328)(hn:n0<=h.size)
  (hk:∀ v' h',BufE n (Own n0 (zJz col h k) k h') h' v' (xs++ys)->Keep (λb=>Own n0 col k h b\/h.size<=b) h h'->K v' h'):zIw T n sz h v x K:=by
 refine(b.mono (G:=λb=>Own n0 col k h b\/h.size<=b) λ_ hb => .inl hb).app hx h0 hlen (.inr (zAh _)) λv' h' b' k'=>hk v' h' (BufE.re b' λb hl hb=>?_) k'
 rcases hb with hb|hb
 ·exact hb.ext k'.1
 ·exact Own.new hn hb hl
def chC (kind:Int)(d s t:Value):List Value:=[.int .i64 kind,d,s,t]
structure ChI (n0 z:Nat)(kind:Int)(col:Nat->Nat)(d s t:Value)(dr:List MV)(ad:List PW)(af:List MV)(h:zAx):Prop where
 a:At h z (chC kind d s t)
 bd:BufE 8 (Own n0 col 1 h) h d (dr.map mvC)
 bs:BufE 9 (Own n0 col 2 h) h s (ad.map pvC)
 bt:BufE 8 (Own n0 col 3 h) h t (af.map mvC)
 md:∀ x∈dr,zLd (Own n0 col 4 h) h x.1 x.2.1 x.2.2.1 x.2.2.2
 ms:∀ x∈ad,PkV (Own n0 col 4 h) h x
 mt:∀ x∈af,zLd (Own n0 col 4 h) h x.1 x.2.1 x.2.2.1 x.2.2.2
 n:n0<=h.size
 zl:z<n0
section
variable {n0 z:Nat} {kind:Int} {col:Nat->Nat} {d s t:Value} {dr:List MV} {ad:List PW} {af:List MV} {h h':zAx}
theorem ChI.fresh (c:ChI n0 z kind col d s t dr ad af h)(k:Keep zAK h h'):ChI n0 z kind (zJz col h 4) d s t dr ad af h' :=
 ⟨c.a.keep k id,(c.bd.keep k λ_ _=>id).mono λ_ o=>o.ext k.1,(c.bs.keep k λ_ _=>id).mono λ_ o=>o.ext k.1,(c.bt.keep k λ_ _=>id).mono λ_ o=>o.ext k.1,λx hx=>((c.md x hx).keep k λ_ _=>id).mono λ_ o=>o.ext k.1,λx hx=>((c.ms x hx).keep k λ_ _=>id).mono λ_ o=>o.ext k.1,λx hx=>((c.mt x hx).keep k λ_ _=>id).mono λ_ o=>o.ext k.1,zBh c.n k.1,c.zl⟩
theorem ChI.low {S:zA1}(c:ChI n0 z kind col d s t dr ad af h)(k:Keep S h h')(hS:∀ b,S b->(b<n0/\b≠z)\/h.size<=b):ChI n0 z kind (zJz col h 4) d s t dr ad af h':=by
 have ho:∀ j b,Own n0 col j h b->¬ S b:=λj b o hs=>by
  rcases hS b hs with h1|h1
  ·have:=o.2.1;omega
  ·have:=o.2.2;omega
 have hz:¬ S z:=λhs=>by
  rcases hS z hs with h1|h1
  ·exact h1.2 rfl
  ·have:=c.n;have:=c.zl;omega
 exact⟨c.a.keep k hz,(c.bd.keep k (ho 1)).mono λ_ o=>o.ext k.1,(c.bs.keep k (ho 2)).mono λ_ o=>o.ext k.1,(c.bt.keep k (ho 3)).mono λ_ o=>o.ext k.1,λx hx=>((c.md x hx).keep k (ho 4)).mono λ_ o=>o.ext k.1,λx hx=>((c.ms x hx).keep k (ho 4)).mono λ_ o=>o.ext k.1,λx hx=>((c.mt x hx).keep k (ho 4)).mono λ_ o=>o.ext k.1,zBh c.n k.1,c.zl⟩
theorem ChI.coarse (c:ChI n0 z kind col d s t dr ad af h){j:Nat}(k:Keep (λb=>(Own n0 col j h b\/h.size<=b)\/b=z) h h'):Keep (λb=>n0<=b\/b=z) h h' :=
 k.mono λb _ hb=>hb.imp (λhh=>hh.elim (λo=>o.2.1) λh=>zBh c.n h) id
theorem zKD {j k:Nat}(hjk:j≠k){b:Nat}(o:Own n0 col j h b):¬ (Own n0 col k h b\/h.size<=b):=λhh=>by
 rcases hh with hh|hh
 ·exact hjk (o.1.symm.trans hh.1)
 ·have:=o.2.2;omega
theorem ChI.addD (c:ChI n0 z kind col d s t dr ad af h){x:MV}{P:zA1}{y:Value}{K:zAx->Prop}(hx:zLd (Own n0 col 4 h) h x.1 x.2.1 x.2.2.1 x.2.2.2)(hy:SlE 8 P h y [mvC x])(hl:dr.length<=1000000)
  (hk:∀ h' col' d',ChI n0 z kind col' d' s t (dr++[x]) ad af h'->Keep (λb=>(Own n0 col 1 h b\/h.size<=b)\/b=z) h h'->K h'):zIw zAe 8 128 h d y λv h1=>Mwr (st1 h1 (Ptr z 1) v) K:=by
 refine zAi5 c.bd hy (by omega) (by rw[zAd,zBc];omega) c.n λv h1 b1 k1=>?_
 have hz:¬ (Own n0 col 1 h z\/h.size<=z):=λhh=>by
  have:=c.zl
  rcases hh with hh|hh
  ·have:=hh.2.1;omega
  ·have:=c.n;omega
 obtain⟨h2,st2,a2,k2⟩:=(c.a.keep k1 hz).st1 (i:=1) (v:=v) (by simp[chC]) b1.sl.oneC
 rw[st2,zAW]
 have g1:=k1.1
 have g2:=k2.1
 have zz:∀ {j b},Own n0 (zJz col h 1) j h1 b->b≠z:=λo e=>by have:=o.2.1;have:=c.zl;omega
 have up:∀ {j b},Own n0 (zJz col h 1) j h1 b->Own n0 (zJz col h 1) j h2 b:=λo=>⟨o.1,o.2.1,by have:=o.2.2;omega⟩
 refine hk h2 (zJz col h 1) v ⟨a2,?_,((((c.bs.keep k1 λb o=>zKD (by decide) o).mono λ_ o=>o.ext g1).keep k2 λb o=>zz o).mono λ_ o=>up o),((((c.bt.keep k1 λb o=>zKD (by decide) o).mono λ_ o=>o.ext g1).keep k2 λb o=>zz o).mono λ_ o=>up o),λu hu=>?_,λu hu=>((((c.ms u hu).keep k1 λb o=>zKD (by decide) o).mono λ_ o=>o.ext g1).keep k2 λb o=>zz o).mono λ_ o=>up o,λu hu=>((((c.mt u hu).keep k1 λb o=>zKD (by decide) o).mono λ_ o=>o.ext g1).keep k2 λb o=>zz o).mono λ_ o=>up o,by have:=c.n;omega,c.zl⟩ ?_
 ·rw[show(dr++[x]).map mvC=dr.map mvC++[mvC x] by simp]
  exact(b1.keep k2 λb o=>zz o).mono λ_ o=>up o
 ·rcases zAp.1 hu with hu|hu
  ·exact((((c.md u hu).keep k1 λb o=>zKD (by decide) o).mono λ_ o=>o.ext g1).keep k2 λb o=>zz o).mono λ_ o=>up o
  ·rw[zAD.1 hu]
   exact(((hx.keep k1 λb o=>zKD (by decide) o).mono λ_ o=>o.ext g1).keep k2 λb o=>zz o).mono λ_ o=>up o
 ·exact(k1.mono λb _ hb => .inl hb).trans (k2.mono λ_ _ e => .inr e)
theorem ChI.addA (c:ChI n0 z kind col d s t dr ad af h){x:MV}{P:zA1}{y:Value}{K:zAx->Prop}(hx:zLd (Own n0 col 4 h) h x.1 x.2.1 x.2.2.1 x.2.2.2)(hy:SlE 8 P h y [mvC x])(hl:af.length<=1000000)
  (hk:∀ h' col' t',ChI n0 z kind col' d s t' dr ad (af++[x]) h'->Keep (λb=>(Own n0 col 3 h b\/h.size<=b)\/b=z) h h'->K h'):zIw zAe 8 128 h t y λv h1=>Mwr (st1 h1 (Ptr z 3) v) K:=by
 refine zAi5 c.bt hy (by omega) (by rw[zAd,zBc];omega) c.n λv h1 b1 k1=>?_
 have hz:¬ (Own n0 col 3 h z\/h.size<=z):=λhh=>by
  have:=c.zl
  rcases hh with hh|hh
  ·have:=hh.2.1;omega
  ·have:=c.n;omega
 obtain⟨h2,st2,a2,k2⟩:=(c.a.keep k1 hz).st1 (i:=3) (v:=v) (by simp[chC]) b1.sl.oneC
 rw[st2,zAW]
 have g1:=k1.1
 have g2:=k2.1
 have zz:∀ {j b},Own n0 (zJz col h 3) j h1 b->b≠z:=λo e=>by have:=o.2.1;have:=c.zl;omega
 have up:∀ {j b},Own n0 (zJz col h 3) j h1 b->Own n0 (zJz col h 3) j h2 b:=λo=>⟨o.1,o.2.1,by have:=o.2.2;omega⟩
 refine hk h2 (zJz col h 3) v ⟨a2,((((c.bd.keep k1 λb o=>zKD (by decide) o).mono λ_ o=>o.ext g1).keep k2 λb o=>zz o).mono λ_ o=>up o),((((c.bs.keep k1 λb o=>zKD (by decide) o).mono λ_ o=>o.ext g1).keep k2 λb o=>zz o).mono λ_ o=>up o),?_,λu hu=>((((c.md u hu).keep k1 λb o=>zKD (by decide) o).mono λ_ o=>o.ext g1).keep k2 λb o=>zz o).mono λ_ o=>up o,λu hu=>((((c.ms u hu).keep k1 λb o=>zKD (by decide) o).mono λ_ o=>o.ext g1).keep k2 λb o=>zz o).mono λ_ o=>up o,λu hu=>?_,by have:=c.n;omega,c.zl⟩ ?_
 ·rw[show(af++[x]).map mvC=af.map mvC++[mvC x] by simp]
  exact(b1.keep k2 λb o=>zz o).mono λ_ o=>up o
 ·rcases zAp.1 hu with hu|hu
  ·exact((((c.mt u hu).keep k1 λb o=>zKD (by decide) o).mono λ_ o=>o.ext g1).keep k2 λb o=>zz o).mono λ_ o=>up o
  ·rw[zAD.1 hu]
   exact(((hx.keep k1 λb o=>zKD (by decide) o).mono λ_ o=>o.ext g1).keep k2 λb o=>zz o).mono λ_ o=>up o
 ·exact(k1.mono λb _ hb => .inl hb).trans (k2.mono λ_ _ e => .inr e)
theorem ChI.addS (c:ChI n0 z kind col d s t dr ad af h){x:PW}{P:zA1}{y:Value}{K:zAx->Prop}(hx:PkV (Own n0 col 4 h) h x)(hy:SlE 9 P h y [pvC x])(hl:ad.length<=1000000)
  (hk:∀ h' col' s',ChI n0 z kind col' d s' t dr (ad++[x]) af h'->Keep (λb=>(Own n0 col 2 h b\/h.size<=b)\/b=z) h h'->K h'):zIw zA6 9 152 h s y λv h1=>Mwr (st1 h1 (Ptr z 2) v) K:=by
 refine zAi5 c.bs hy (by omega) (by rw[zAd,zBc];omega) c.n λv h1 b1 k1=>?_
 have hz:¬ (Own n0 col 2 h z\/h.size<=z):=λhh=>by
  have:=c.zl
  rcases hh with hh|hh
  ·have:=hh.2.1;omega
  ·have:=c.n;omega
 obtain⟨h2,st2,a2,k2⟩:=(c.a.keep k1 hz).st1 (i:=2) (v:=v) (by simp[chC]) b1.sl.oneC
 rw[st2,zAW]
 have g1:=k1.1
 have g2:=k2.1
 have zz:∀ {j b},Own n0 (zJz col h 2) j h1 b->b≠z:=λo e=>by have:=o.2.1;have:=c.zl;omega
 have up:∀ {j b},Own n0 (zJz col h 2) j h1 b->Own n0 (zJz col h 2) j h2 b:=λo=>⟨o.1,o.2.1,by have:=o.2.2;omega⟩
 refine hk h2 (zJz col h 2) v ⟨a2,((((c.bd.keep k1 λb o=>zKD (by decide) o).mono λ_ o=>o.ext g1).keep k2 λb o=>zz o).mono λ_ o=>up o),?_,((((c.bt.keep k1 λb o=>zKD (by decide) o).mono λ_ o=>o.ext g1).keep k2 λb o=>zz o).mono λ_ o=>up o),λu hu=>((((c.md u hu).keep k1 λb o=>zKD (by decide) o).mono λ_ o=>o.ext g1).keep k2 λb o=>zz o).mono λ_ o=>up o,λu hu=>?_,λu hu=>((((c.mt u hu).keep k1 λb o=>zKD (by decide) o).mono λ_ o=>o.ext g1).keep k2 λb o=>zz o).mono λ_ o=>up o,by have:=c.n;omega,c.zl⟩ ?_
 ·rw[show(ad++[x]).map pvC=ad.map pvC++[pvC x] by simp]
  exact(b1.keep k2 λb o=>zz o).mono λ_ o=>up o
 ·rcases zAp.1 hu with hu|hu
  ·exact((((c.ms u hu).keep k1 λb o=>zKD (by decide) o).mono λ_ o=>o.ext g1).keep k2 λb o=>zz o).mono λ_ o=>up o
  ·rw[zAD.1 hu]
   exact(((hx.keep k1 λb o=>zKD (by decide) o).mono λ_ o=>o.ext g1).keep k2 λb o=>zz o).mono λ_ o=>up o
 ·exact(k1.mono λb _ hb => .inl hb).trans (k2.mono λ_ _ e => .inr e)
end
end Go.Proofs.YticdfkoncnnmmaaGreatDoor
