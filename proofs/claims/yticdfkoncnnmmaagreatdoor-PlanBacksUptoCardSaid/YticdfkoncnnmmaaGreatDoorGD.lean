import Derived.Test.YticdfkoncnnmmaaGreatDoorGC
import Derived.RangeFuncRecord
set_option linter.unusedSimpArgs false
set_option linter.unusedVariables false
namespace Go.X
def zDX (a:Act):Env:=λi=>a.tmps.getD i undef
theorem zMu (a:Act):a.eval=ev (zDX a):=by
 funext x;cases x<;>rfl
theorem zXc {a:Act}{d:Option Nat}{v:Value}(h:∀ t,d=some t->t<a.tmps.size):zDX (a.put d v)=(zDX a).put d v:=by
 cases d with
 | none=>rfl
 | some d =>
  have hd:=h d rfl
  funext i
  by_cases hi:i=d
  ·subst hi
   rw[zN5]
   simp[zDX,Act.put,hd]
  ·rw[zJK (by simpa using λh=>hi h.symm)]
   simp[zDX,Act.put,Array.getElem?_setIfInBounds_ne (Ne.symm hi)]
theorem zZK {a:Act}{d:Option Nat}{v:Value}:(a.put d v).tmps.size=a.tmps.size:=by
 cases d<;>simp[Act.put]
theorem zTW {a:Act}{d:Option Nat}{v:Value}:(a.put d v).defers=a.defers:=by
 cases d<;>rfl
theorem zVc {ops:Array Oper}{o:Oper}{a:Act}{b:Bool}(h:act ops o (zDX a)=some b):Region.wanted o (yielded ops a.tmps)=b:=by
 unfold act at h
 unfold Region.wanted
 cases hg:o.guard with
 | none=>simp only[hg,zAn]at h ⊢;exact h
 | some g =>
  obtain⟨j,want⟩:=g
  simp only[hg]at h ⊢
  cases ht:(ops[j]?).bind (·.dst) with
  | none=>simp[ht]at h
  | some t =>
   simp only[ht]at h
   by_cases hbb:∃ b',zDX a t = .bool b'
   ·obtain⟨b',hv⟩:=hbb
    rw[hv]at h
    simp only[zAn]at h
    have:a.tmps[t]? = some (.bool b'):=by
     unfold zDX at hv
     rw[zBx]at hv
     cases hq:a.tmps[t]? with
     | none=>rw[hq]at hv;cases hv
     | some x=>rw[hq]at hv;simp only[Option.getD_some]at hv;rw[hv]
    unfold yielded
    rw[ht]
    simp only[zAZ,this]
    rw[<- h]
    cases b'<;>cases want<;>rfl
   ·have hb:b=false:=by
     cases hv:zDX a t<;>simp_all
    subst hb
    have:yielded ops a.tmps j=none:=by
     unfold yielded
     rw[ht]
     simp only[zAZ]
     cases hq:a.tmps[t]? with
     | none=>rfl
     | some x =>
      have hx:zDX a t=x:=by unfold zDX;rw[zBx,hq];rfl
      cases x<;>first
       | rfl
       | exact absurd ⟨_,hx⟩ hbb
    rw[this]
    cases want<;>rfl
def zYs (n:Nat)(o:Oper):Bool:=(match o.dst with|some d=>decide (d<n)|none=>true)&&(match o.op with | .select _ _=>false|_=>true)
theorem zAeH {n:Nat}{o:Oper}(h:zYs n o=true):∀ t,o.dst=some t->t<n:=by
 intro t ht
 simp only[zYs,ht,zAk,decide_eq_true_eq]at h
 exact h.1
theorem zRB {n:Nat}{o:Oper}(h:zYs n o=true):∀ cs b,o.op ≠ .select cs b:=by
 intro cs b he
 simp[zYs,he]at h
theorem zPz {P:Program}{f:FuncId}(h:zPt P f=true):∃ fn c,P.funcs[f]? = some fn/\fn.body=some c/\(fn.name == "runtime.NumGoroutine")=false:=by
 unfold zPt at h
 cases hf:P.funcs[f]? with
 | none=>simp[hf]at h
 | some fn =>
  simp only[hf,zAk,zCb,bne_iff_ne,ne_eq]at h
  obtain⟨⟨c,hc⟩,hn⟩:=h
  exact⟨fn,c,rfl,hc,by simpa using hn⟩
abbrev Fr (ro:Option Nat):Fence:={ fn:=λ_=>True,depth:=none,alive:=false,round:=ro }
theorem zSv {ro:Option Nat}{n:Nat}{P:Program}{f:FuncId}{args:Array Value}{w:World}{R:Ending->World->Prop}(h:Calls P f args w R):CallsIn (Fr ro) n P f args w R:=by
 have h:CallsIn Fence.wide n P f args w R:=callsIn_wide.2 h
 exact h
theorem zAlE {ro:Option Nat}{m:Nat}{P:Program}{q:Bool}{o:Oper}{a:Act}{w:World}{k:zAm}{next:Act->World->Prop}{Q:Exit->Act->World->Prop}
  (h:opX P q o (ev (zDX a)) w.heap k) (hn:∀ v w',zJI w w'->k v w'.heap->next (a.put o.dst v) w'):o.wpIn (Fr ro) m P a w next Q:=by
 unfold Oper.wpIn
 refine⟨λ_ _=>trivial,?_⟩
 have hsem:∀ r,(execOp a.eval o).run P w=r->(∀ d w',r ≠ .ok (.defer d) w')->(∀ x w',r ≠ .halt x w')->(o.semAt ro a.eval).run P w=r:=λr hr hd hh=>by
  by_cases hop:∃ c,o.op = .defer c
  ·obtain⟨c,hop⟩:=hop
   simp only[execOp,hop,Sem.run_bind]at hr
   cases hres:(resolve a.eval c o.type).run P w with
   | ok d w'=>rw[hres]at hr;exact absurd hr.symm (hd d w')
   | halt x w'=>rw[hres]at hr;exact absurd hr.symm (hh x w')
  ·rw[Oper.semAt_eq ro _ o λc hc=>hop ⟨c,hc⟩];exact hr
 rcases zAcb (λ_=>rfl) h with (⟨c,f,ho,hc,hb,hcall⟩|⟨c,x,ho,hc,hcall⟩)|hraw
 ·obtain⟨fn,body,hf,hbody,hname⟩:=zPz hb
  have hrun:(execOp (ev (zDX a)) o).run P w = .ok (.enter f (c.args.toList.map (ev (zDX a))).toArray) w:=by
   have e:(List.map (ev (zDX a)) c.args.toList).toArray=Array.map (ev (zDX a)) c.args:=by apply Array.ext';simp
   rw[e]
   simp only[execOp,ho,resolve,hc,ev,Deferred.ofValue,Sem.run_bind,Sem.run_pure,Result.andThen_ok,invoke,callFunc,run_program,hf,hname,hbody]
   simp
  rw[<- zMu]at hrun
  have hs:=hsem _ hrun (by simp) (by simp)
  show o.uponIn (Fr ro) m P a next Q ((o.semAt ro a.eval).run P w)
  rw[hs,Oper.uponIn_enter]
  refine⟨λh=>(by cases h),?_⟩
  refine zSv ((hcall w rfl).mono ?_)
  rintro e w' ⟨v,rfl,hs,hk⟩
  exact hn v w' hs hk
 ·rcases hcall with ⟨f,fi,ca,hx,hb,hcall⟩|⟨l,fi,ca,hx,hcall⟩
  ·obtain⟨fn,body,hf,hbody,hname⟩:=zPz hb
   have hrun:(execOp (ev (zDX a)) o).run P w = .ok (.enter f (fi.toList++c.args.toList.map (ev (zDX a))++ca.toList).toArray) w:=by
    have e:(fi.toList++c.args.toList.map (ev (zDX a))++ca.toList).toArray=fi++Array.map (ev (zDX a)) c.args++ca:=by apply Array.ext';simp
    rw[e]
    simp only[execOp,ho,resolve,hc,hx,Deferred.ofValue,Sem.run_bind,Sem.run_pure,Result.andThen_ok,invoke,callFunc,run_program,hf,hname,hbody]
    simp
   rw[<- zMu]at hrun
   have hs:=hsem _ hrun (by simp) (by simp)
   show o.uponIn (Fr ro) m P a next Q ((o.semAt ro a.eval).run P w)
   rw[hs,Oper.uponIn_enter]
   refine⟨λh=>(by cases h),?_⟩
   refine zSv ((hcall w rfl).mono ?_)
   rintro e w' ⟨v,rfl,hs,hk⟩
   exact hn v w' hs hk
  ·obtain⟨f,tmps,assign,body,hy,hr⟩:=hcall w rfl
   have hrun:(execOp (ev (zDX a)) o).run P w = .ok (.round l f tmps assign body) w:=by
    have e:(fi.toList++c.args.toList.map (ev (zDX a))).toArray=fi++Array.map (ev (zDX a)) c.args:=by apply Array.ext';simp
    rw[e]at hy
    simp only[execOp,ho,resolve,hc,hx,Deferred.ofValue,Sem.run_bind,Sem.run_pure,Result.andThen_ok,invoke,hy]
   rw[<- zMu]at hrun
   have hs:=hsem _ hrun (by simp) (by simp)
   show o.uponIn (Fr ro) m P a next Q ((o.semAt ro a.eval).run P w)
   rw[hs,Oper.uponIn_round]
   refine⟨λh=>(by cases h),?_⟩
   have hr':RoundIn (Fr ro) (m-1) P l f tmps assign body w λe w'=>∃ v,e = .returned v/\zJI w w'/\k v w'.heap:=⟨trivial,λc cs _=>hr.2 c cs (λd hd=>by cases hd)⟩
   refine hr'.mono ?_
   rintro e w' ⟨v,rfl,hs,hk⟩
   exact hn v w' hs hk
 ·obtain⟨n,w',hr,hs,hk⟩:=hraw w rfl
  rw[<- zMu]at hr
  have hs':=hsem _ hr (by rintro d w';rcases hk with ⟨v,rfl,hk⟩|⟨rfl,hk⟩<;>simp) (by simp)
  show o.uponIn (Fr ro) m P a next Q ((o.semAt ro a.eval).run P w)
  rw[hs']
  rcases hk with ⟨v,rfl,hk⟩|⟨rfl,hk⟩
  ·exact hn v w' hs hk
  ·exact hn undef w' hs hk
theorem zYy {ro:Option Nat}{m:Nat}{P:Program}{q:Bool}{ops:Array Oper}{n i:Nat}{o:Oper}(hi:ops[i]? = some o)(hok:zYs n o=true){a:Act}{w:World}(hsz:a.tmps.size=n){K:Env->zAx->Prop}{next:Act->World->Prop}{Q:Exit->Act->World->Prop}
  (h:zYx P q ops o (zDX a) w.heap K) (hn:∀ a' w',zJI w w'->a'.tmps.size=n->a'.defers=a.defers->K (zDX a') w'.heap->next a' w'):wpOpIn (Fr ro) m P ops Q i next a w:=by
 unfold wpOpIn
 simp only[hi]
 have hd:∀ t,o.dst=some t->t<a.tmps.size:=λt ht=>by rw[hsz];exact zAeH hok t ht
 rcases h with ⟨ha,h⟩|⟨ha,h⟩
 ·rw[zVc ha,if_pos rfl]
  refine zAlE h λv w' hs hk=>hn _ _ hs (by rw[zZK,hsz]) zTW ?_
  rw[zXc hd];exact hk
 ·rw[zVc ha,if_neg (by simp)]
  refine⟨λ_ _=>trivial,?_⟩
  refine hn _ _ (zJI.rfl' w) (by rw[zZK,hsz]) zTW ?_
  rw[zXc hd];exact h
def zYz (P:Program)(q:Bool)(ops:Array Oper):List Oper->Env->zAx->(Env->zAx->Prop)->Prop
 | [],e,H,K=>K e H
 | o::r,e,H,K=>zYx P q ops o e H λe h=>zYz P q ops r e h K
theorem zYz.mono {P:Program}{q:Bool}{ops:Array Oper}:∀ {l:List Oper} {e:Env} {H:zAx} {K K':Env->zAx->Prop},zYz P q ops l e H K->(∀ e h,K e h->K' e h)->zYz P q ops l e H K'
 | [],_,_,_,_,h,hk=>hk _ _ h
 | _::_,_,_,_,_,h,hk=>zYx.mono h λ_ _ h=>zYz.mono h hk
theorem zVd {ro:Option Nat}{m:Nat}{P:Program}{q:Bool}{ops:Array Oper}{n:Nat}{Q:Exit->Act->World->Prop}{K:Env->zAx->Prop}{w0:World}{df:List Deferred}:∀ (l:List Nat) (os:List Oper),
  os.length=l.length->(∀ (j i:Nat),l[j]? = some i->∃ o,os[j]? = some o/\ops[i]? = some o/\zYs n o=true)->∀ (a:Act) (w:World),a.tmps.size=n->a.defers=df->zJI w0 w ->
  zYz P q ops os (zDX a) w.heap K->(∀ a' w',zJI w0 w'->a'.tmps.size=n->a'.defers=df->K (zDX a') w'.heap->Q .normal a' w')->wpOpsIn (Fr ro) m P ops Q l a w
 | [],os,hl,_,a,w,hsz,hdf,hsm,h,hq=>by
  have:os=[]:=zBo.1 hl
  subst this
  exact hq a w hsm hsz hdf h
 | i::l,os,hl,hos,a,w,hsz,hdf,hsm,h,hq=>by
  obtain⟨o,ho,hi,hok⟩:=hos 0 i rfl
  match os,ho with
  | o'::os',ho =>
   simp only[zC5,zAn]at ho
   subst ho
   rw[wpOpsIn_cons]
   refine zYy hi hok hsz h λa' w' hs hs' hd' hk=>?_
   exact zVd l os' (by simpa using hl) (λj i' hj=>by simpa using hos (j+1) i' (by simpa using hj)) a' w' hs' (hd'.trans hdf) (hsm.trans hs) hk hq
def zAhX (ops:Array Oper)(x y:Nat):Prop:=∃ oy,ops[y]? = some oy/\∃ g∈oy.after,Region.binds .any g=true/\g.on=x
inductive Anc (ops:Array Oper):Nat->zA1
 | one {x y:Nat}:zAhX ops x y->Anc ops x y
 | more {x y z:Nat}:Anc ops x y->zAhX ops y z->Anc ops x z
theorem zVe {ops:Array Oper}{listed:Array Bool}(hcl:∀ i,listed.getD i false=true->∀ x,zAhX ops x i->listed.getD x false=true){i:Nat}(hi:∀ x,zAhX ops x i->listed.getD x false=true){x:Nat}(h:Anc ops x i):listed.getD x false=true:=by
 have key:∀ {x y:Nat},Anc ops x y->listed.getD y false=true->listed.getD x false=true:=by
  intro x y h
  induction h with
  | one h=>exact λhy=>hcl _ hy _ h
  | more _ h2 ih=>exact λhz=>ih (hcl _ hz _ h2)
 cases h with
 | one h=>exact hi _ h
 | more h1 h2=>exact key h1 (hi _ h2)
structure Rel (P:Program)(ops:Array Oper)(rsl:Nat->List Nat)(x y:Nat):Prop where
 fwd:Anc ops x y\/∃ ox oy,ops[x]? = some ox/\ops[y]? = some oy/\zTV P ops ox oy=true /\
  (cls P ox.op=1->cls P oy.op≠0->cls P oy.op≠1->x∈rsl y/\∃ d,ox.dst=some d/\d∉ox.looksAt ops)
 bwd:¬ zAhX ops y x
 stay:∀ ox oy,ops[x]? = some ox->ops[y]? = some oy->cls P ox.op=1->∀ d,oy.dst=some d->d∉ox.looksAt ops/\ox.dst≠some d
def Ob (P:Program)(ops:Array Oper)(rsl:Nat->List Nat)(seen:List Nat)(i:Nat)(e:Env)(h:zAx):Prop :=
 ∀ j,j∈rsl i->j∈seen->∀ oj,ops[j]? = some oj->rc P oj e h
def zQz (P:Program)(ops:Array Oper)(rsl:Nat->List Nat):List Nat->List Nat->Env->zAx->(Env->zAx->Prop)->Prop
 | _,[],e,H,K=>K e H
 | seen,i::l,e,H,K=>match ops[i]? with
  | none=>False
  | some o=>zHH P ops o e H (Ob P ops rsl seen i) λe' h'=>zQz P ops rsl (i::seen) l e' h' K
theorem zQz.less {P:Program}{ops:Array Oper}{rsl:Nat->List Nat}:∀ {l seen seen':List Nat} {e:Env} {H:zAx} {K:Env->zAx->Prop},(∀ k,k∈seen'->k∈seen)->zQz P ops rsl seen l e H K->zQz P ops rsl seen' l e H K
 | [],_,_,_,_,_,_,h=>h
 | i::l,seen,seen',e,H,K,hs,h=>by
  simp only[zQz]at h ⊢
  cases ho:ops[i]? with
  | none=>simp[ho]at h
  | some o =>
   simp only[ho]at h ⊢
   exact zHH.mono h (λe' h' a j hj hm=>a j hj (hs j hm)) λe' h' b=>zQz.less (λk hk=>by
    rcases zAs.1 hk with rfl|hk
    ·simp
    ·simp[hs k hk]) b
theorem zAcd {P:Program}{ops:Array Oper}{j:Oper}{e:Env}{h:zAx}{d:Option Nat}{v:Value}(hd:∀ t,d=some t->t∉j.looksAt ops/\j.dst≠some t):rc P j (e.put d v) h↔rc P j e h:=by
 unfold rc
 cases hj:j.dst with
 | none=>exact Iff.rfl
 | some t =>
  simp only
  rw[zN3 (zVb (ops:=ops) λt ht=>(hd t ht).1),zJK (λhe=>(hd t he).2 hj)]
theorem zAjH {P:Program}{ops:Array Oper}{rsl:Nat->List Nat}{i:Nat}{o:Oper}(ho:ops[i]? = some o)(hsel:∀ (x:Nat) (o:Oper),ops[x]? = some o->∀ cs b,o.op ≠ .select cs b)
  (hrs:∀ (x:Nat) (o:Oper),ops[x]? = some o->(cls P o.op=0\/cls P o.op=1)->rsl x=[]) (hrd:∀ (x k:Nat) (ok:Oper),k∈rsl x->ops[k]? = some ok->cls P ok.op=1) {post:List Nat}:∀ {pre seen:List Nat},
  (∀ j∈pre,¬ Anc ops j i)->(∀ j∈pre,Rel P ops rsl j i)->pre.Pairwise (Rel P ops rsl)->(∀ k∈seen,Rel P ops rsl k i/\∀ j∈pre,Rel P ops rsl k j) ->
  ∀ {e:Env} {H:zAx} {K:Env->zAx->Prop},zQz P ops rsl seen (pre++i::post) e H K->zHH P ops o e H (Ob P ops rsl seen i) λe1 h1=>zQz P ops rsl seen (pre++post) e1 h1 K
 | [],seen,_,_,_,_,e,H,K,h=>by
  simp only[zAY,zQz,ho]at h
  exact zHH.mono h (λ_ _ a=>a) λe1 h1 b=>zQz.less (λk hk=>by simp[hk]) b
 | j::pre,seen,hna,hri,hpw,hseen,e,H,K,h=>by
  simp only[zCA,zQz]at h
  cases hj:ops[j]? with
  | none=>simp[hj]at h
  | some oj =>
   simp only[hj]at h
   have hpc:=zCg.1 hpw
   have h1:zHH P ops oj e H (Ob P ops rsl seen j) λe1 h1=>zHH P ops o e1 h1 (Ob P ops rsl (j::seen) i) λe2 h2=>zQz P ops rsl (j::seen) (pre++post) e2 h2 K :=
    zHH.mono h (λ_ _ a=>a) λe1 h1 b=>zAjH ho hsel hrs hrd (λx hx=>hna x (by simp[hx])) (λx hx=>hri x (by simp[hx])) hpc.2 (λk hk=>by
     rcases zAs.1 hk with rfl|hk
     ·exact⟨hri k (by simp),λx hx=>hpc.1 x hx⟩
     ·exact⟨(hseen k hk).1,λx hx=>(hseen k hk).2 x (by simp[hx])⟩) b
   obtain⟨ox,oy,e1,e2,hok,hre⟩:=(hri j (by simp)).fwd.resolve_left (hna j (by simp))
   rw[hj]at e1;cases e1
   rw[ho]at e2;cases e2
   have:=swap (hsel j _ hj) (hsel i _ ho) hok (Ci':=Ob P ops rsl seen i) ?_ ?_ h1
   ·refine zHH.mono this (λ_ _ a=>a) λe1 h1 b=>?_
    simp only[zCA,zQz,hj]
    exact b
   ·intro hi0
    refine⟨λe h k hk=>by rw[hrs i _ ho (.inl hi0)]at hk;simp at hk,λe h v hc k hk hm ok hok'=>?_⟩
    exact(zAcd (ops:=ops) λt ht=>(hseen k hm).1.stay ok o hok' ho (hrd j k ok hk hok') t ht).2 (hc k hk hm ok hok')
   ·intro hi0
    have hj1:cls P oj.op=0\/cls P oj.op=1:=by
     simp only[zTV,zAk]at hok
     rcases Bool.or_eq_true_iff.1 hok.2 with hh|hh
     ·exact absurd (zA3 hh) hi0
     ·exact zAhW.1 hh
    refine⟨λe h k hk=>by rw[hrs j _ hj hj1]at hk;simp at hk,λe h v hc k hk hm ok hok'=>?_,λhj1 hi1=>?_⟩
    ·exact(zAcd (ops:=ops) λt ht=>((hseen k hm).2 j (by simp)).stay ok oj hok' hj (hrd i k ok hk hok') t ht).1 (hc k hk (by simp[hm]) ok hok')
    ·obtain⟨hm,hd⟩:=hre hj1 hi0 hi1
     exact⟨hd,λe h hc=>hc j hm (by simp) oj hj⟩
theorem zAaZ {ro:Option Nat}{m:Nat}{P:Program}{ops:Array Oper}{rsl:Nat->List Nat}{n:Nat}{Q:Exit->Act->World->Prop}{K:Env->zAx->Prop}{w0:World}{df:List Deferred}(hokall:∀ (i:Nat) (o:Oper),ops[i]? = some o->zYs n o=true)(hirr:∀ (i:Nat) (o:Oper),ops[i]? = some o->¬ ∃ g∈o.after,Region.binds .any g=true/\g.on=i)
  (hin:∀ (i:Nat) (o:Oper),ops[i]? = some o->∀ g∈o.after,Region.binds .any g=true->g.on<ops.size)
  (hrs:∀ (x:Nat) (o:Oper),ops[x]? = some o->(cls P o.op=0\/cls P o.op=1)->rsl x=[]) (hrd:∀ (x k:Nat) (ok:Oper),k∈rsl x->ops[k]? = some ok->cls P ok.op=1):∀ (fuel:Nat) (R:List Nat) (listed:Array Bool) (a:Act) (w:World),
  R.length<=fuel->listed.size=ops.size->(∀ i,listed.getD i false=true->∀ x,zAhX ops x i->listed.getD x false=true)->(∀ i,i∈R↔i<ops.size/\listed.getD i true=false)->R.Pairwise (Rel P ops rsl)->R.Nodup->a.tmps.size=n->a.defers=df->zJI w0 w ->
  zQz P ops rsl [] R (zDX a) w.heap K->(∀ a' w',zJI w0 w'->a'.tmps.size=n->a'.defers=df->K (zDX a') w'.heap->Q .normal a' w')->wpAnyIn (Fr ro) m P .any ops Q fuel listed a w:=by
 have hready:∀ (R:List Nat) (listed:Array Bool),listed.size=ops.size->(∀ i,i∈R↔i<ops.size/\listed.getD i true=false)->R.Pairwise (Rel P ops rsl)->Region.ready .any ops listed=[]->R=[]:=by
  intro R listed hls hR hpw hr
  cases R with
  | nil=>rfl
  | cons x R =>
   exfalso
   have hx:=(hR x).1 (by simp)
   have:x∈Region.ready .any ops listed:=by
    refine mem_ready.2 ⟨hx.2,ops[x],zBv hx.1,λg hg hb=>?_⟩
    have ho:ops[x]? = some ops[x]:=zBv hx.1
    have hlt:=hin x _ ho g hg hb
    cases hl:listed.getD g.on false with
    | true=>rfl
    | false =>
     exfalso
     have hl':listed.getD g.on true=false:=by
      simp only[zBx]at hl ⊢
      rw[zBv (by omega)]at hl ⊢
      simpa using hl
     have hm:g.on∈x::R:=(hR g.on).2 ⟨hlt,hl'⟩
     rcases zAs.1 hm with he|hm
     ·exact hirr x _ ho ⟨g,hg,hb,he⟩
     ·exact(List.rel_of_pairwise_cons hpw hm).bwd ⟨_,ho,g,hg,hb,rfl⟩
   rw[hr]at this
   simp at this
 intro fuel
 induction fuel with
 | zero =>
  intro R listed a w hlen hls hcl hR hpw hnd hsz hdf hsm h hq
  have:R=[]:=zBo.1 (by omega)
  subst this
  refine⟨?_,hq a w hsm hsz hdf h⟩
  cases hr:Region.ready .any ops listed with
  | nil=>rfl
  | cons x l =>
   exfalso
   have hx:x∈Region.ready .any ops listed:=by rw[hr];simp
   obtain⟨h0,o,ho,_⟩:=mem_ready.1 hx
   have:=(hR x).2 ⟨(zBk.1 ho).1,h0⟩
   simp at this
 | succ fuel ih =>
  intro R listed a w hlen hls hcl hR hpw hnd hsz hdf hsm h hq
  refine⟨λhr=>?_,λi hi=>?_⟩
  ·have:=hready R listed hls hR hpw hr
   subst this
   exact hq a w hsm hsz hdf h
  ·obtain⟨h0,o,ho,hall⟩:=mem_ready.1 hi
   have hilt:=(zBk.1 ho).1
   have hiR:i∈R:=(hR i).2 ⟨hilt,h0⟩
   obtain⟨pre,post,rfl⟩:=List.append_of_mem hiR
   have hna:∀ j∈pre,¬ Anc ops j i:=by
    intro j hj hanc
    have hl:listed.getD j false=true:=zVe hcl (λx ⟨oy,hoy,g,hg,hb,hgo⟩=>by
     rw[ho]at hoy;cases hoy
     rw[<- hgo];exact hall g hg hb) hanc
    have hjR:=(hR j).1 (by simp[hj])
    simp only[zBx]at hl
    have:=hjR.2
    simp only[zBx]at this
    rw[zBv (by omega)]at hl this
    simp_all
   have hpa:=List.pairwise_append.1 hpw
   have h:=zAjH ho (λx o hx=>zRB (hokall x o hx)) hrs hrd hna (λj hj=>hpa.2.2 j hj i (by simp)) hpa.1 (λk hk=>by simp at hk) h
   refine zYy ho (hokall i o ho) hsz h.step λa' w' hs hs' hd' hk=>?_
   have hnd':=hnd
   rw[zCH]at hnd'
   refine ih (pre++post) (listed.setIfInBounds i true) a' w' ?_ ?_ ?_ ?_ ?_ ?_ hs' (hd'.trans hdf) (hsm.trans hs) hk hq
   ·simp at hlen ⊢;omega
   ·simp[hls]
   ·intro j hj x hx
    by_cases hji:j=i
    ·subst hji
     obtain⟨oy,hoy,g,hg,hb,hgo⟩:=hx
     rw[ho]at hoy;cases hoy
     rw[<- hgo]
     exact getD_set_true (hall g hg hb)
    ·rw[getD_set_ne false (Ne.symm hji)]at hj
     exact getD_set_true (hcl j hj x hx)
   ·intro j
    by_cases hji:j=i
    ·subst hji
     have:j∉pre++post:=by
      intro hm
      rcases zAp.1 hm with hm|hm
      ·exact hnd'.2.2 j hm j (by simp) rfl
      ·exact(zCP.1 hnd'.2.1).1 hm
     simp only[this,false_iff,not_and]
     intro _
     simp[hls,hilt]
    ·rw[getD_set_ne true (Ne.symm hji),<- hR j]
     simp[hji]
   ·exact hpw.sublist (by simp)
   ·exact hnd.sublist (by simp)
def has:List Nat->Nat->Bool
 | [],_=>false
 | a::l,i=>bif Nat.beq i a then true else has l i
theorem zDI {l:List Nat}{i:Nat}:has l i=true↔i∈l:=by
 induction l with
 | nil=>simp[has]
 | cons a l ih =>
  simp only[has,zAs]
  cases h:Nat.beq i a with
  | true=>simp[zA3 h]
  | false =>
   have:i≠a:=λe=>by subst e;rw[zB1]at h;cases h
   simp[this,ih]
def Cur:Nat->Type
 | 0=>zAx->Prop
 | n+1=>Value->Cur n
def Cur.of:(n:Nat)->(List Value->zAx->Prop)->Cur n
 | 0,F=>F []
 | n+1,F=>λv=>Cur.of n λvs=>F (v::vs)
def Cur.app:(n:Nat)->Cur n->List Value->zAx->Prop
 | 0,k,_=>k
 | n+1,k,[]=>Cur.app n (k undef) []
 | n+1,k,v::vs=>Cur.app n (k v) vs
theorem Cur.app_of:∀ {n:Nat} {F:List Value->zAx->Prop} {vs:List Value} {h:zAx},vs.length=n->(Cur.app n (Cur.of n F) vs h↔F vs h)
 | 0,F,[],h,_=>Iff.rfl
 | n+1,F,v::vs,h,hl=>Cur.app_of (n:=n) (F:=λvs=>F (v::vs)) (by simpa using hl)
inductive zLe (n:Nat) (body:Cur n->Prop) (rest:Cur n):Prop
 | mk:body rest->zLe n body rest
theorem zLe.out {n:Nat}{body:Cur n->Prop}{rest:Cur n}:zLe n body rest->body rest
 | .mk h=>h
theorem zGu {n:Nat}{body:Cur n->Prop}{rest:Cur n}:zLe n body rest↔body rest:=⟨zLe.out,.mk⟩
def zV2 (n:Nat)(body:Cur n->Cur n)(vs:List Value)(H:zAx):Prop :=
 ∃ (I:List Value->zAx->Prop) (μ:List Value->zAx->Nat),I vs H/\∀ vs h,vs.length=n->I vs h->Cur.app n (body (Cur.of n λvs' h'=>I vs' h'/\μ vs' h'<μ vs h)) vs h
def zAbS:List Nat->List Value->Nat->Value->Value
 | l::L,v::vs,i,d=>bif Nat.beq i l then v else zAbS L vs i d
 | _,_,_,d=>d
def mg (_A L:List Nat)(e:Env)(vs:List Value):Env:=λi=>zAbS L vs i (e i)
theorem zAeI {L:List Nat}{f:Env}{i:Nat}{d:Value}(h:has L i=true):zAbS L (L.map f) i d=f i:=by
 induction L with
 | nil=>simp[has]at h
 | cons l L ih =>
  simp only[has]at h
  simp only[zA0,zAbS]
  cases hb:Nat.beq i l with
  | true=>simp[zA3 hb]
  | false=>rw[hb]at h;simpa using ih h
theorem zZL {i:Nat}{d:Value}:∀ {L:List Nat} {vs:List Value},has L i=false->zAbS L vs i d=d
 | [],_,_=>by simp[zAbS]
 | _::_,[],_=>by simp[zAbS]
 | l::L,v::vs,h=>by
  simp only[has]at h
  simp only[zAbS]
  cases hb:Nat.beq i l with
  | true=>rw[hb]at h;simp at h
  | false=>rw[hb]at h;simpa using zZL (L:=L) (vs:=vs) h
def rm (A D:List Nat):List Nat:=D.filter λi=>!has A i
def both (V A D:List Nat):List Nat:=V.filter λi=>has A i&&has D i
def addD (d:Option Nat)(D:List Nat):List Nat:=match d with|some d=>d::D|none=>D
def zF7 (D:List Nat)(e e1:Env):Prop:=∀ i,i∈D->e i=e1 i
theorem zF7.put {D:List Nat}{e e1:Env}{d:Option Nat}{v:Value}(h:zF7 D e e1):zF7 (addD d D) (e.put d v) (e1.put d v):=by
 intro i hi
 cases d with
 | none=>exact h i hi
 | some d =>
  by_cases hd:i=d
  ·subst hd;rw[zN5,zN5]
  ·rw[zJK (by simpa using λh=>hd h.symm),zJK (by simpa using λh=>hd h.symm)]
   exact h i ((zAs.1 hi).resolve_left hd)
theorem zRC {V A L D Da:List Nat}{e e1 e1':Env}(hL:L=both V A Da)(h:zF7 D e e1)(hun:∀ i,i∉A->e1' i=e1 i){vs:List Value}(hvs:vs=L.map e1'):zF7 (L++rm A D) (mg A L e vs) e1':=by
 intro i hi
 subst hvs
 rcases zAp.1 hi with hi|hi
 ·have hi':=hi
  rw[hL]at hi'
  have hA:has A i=true:=by
   have:=(zBd.1 hi').2
   simp only[zAk]at this
   exact this.1
  exact zAeI (zDI.2 hi)
 ·obtain⟨hD,hA⟩:=zBd.1 hi
  have hA:has A i=false:=by simpa using hA
  have hL':has L i=false:=by
   cases hl:has L i with
   | false=>rfl
   | true =>
    have:=zDI.1 hl
    rw[hL]at this
    have:=(zBd.1 this).2
    rw[hA]at this;simp at this
  show zAbS L _ i (e i)=_
  rw[zZL hL',hun i (λhm=>by rw[zDI.2 hm]at hA;cases hA)]
  exact h i hD
def zYA (D:List Nat):Operand->Bool
 | .tmp t=>has D t
 | _=>true
def zAeJ (D:List Nat)(o:Oper):Bool:=o.op.operands.toList.all (zYA D)
theorem zN6 {D:List Nat}{o:Oper}(h:zAeJ D o=true){e e1:Env}(ha:zF7 D e e1):∀ x∈o.op.operands,ev e x=ev e1 x:=by
 intro x hx
 have:=zAw.1 h x (zBy.2 hx)
 cases x<;>first|rfl|exact ha _ (zDI.1 this)
def zIy:List Oper->List Nat
 | []=>[]
 | o::r=>addD o.dst (zIy r)
def Mre:List (Option Value×Value)->Prop->Prop
 | [],p=>p
 | (a,b)::l,p=>a=some b/\Mre l p
abbrev Item:=Oper×List Oper
def zAli (e:Env):Option Nat->Value
 | some d=>e d
 | none=>undef
def zV3 (P:Program)(e:Env)(h:zAx):List Oper->List (Option Value×Value)
 | []=>[]
 | j::l=>(zRA (opR P j.op (ev e) h),zAli e j.dst)::zV3 P e h l
def zZM (P:Program):List Item->Env->zAx->(Env->zAx->Prop)->Prop
 | [],e,H,K=>K e H
 | (o,rs)::r,e,H,K=>opX P false o (ev e) H λv h=>Mre (zV3 P (e.put o.dst v) h rs) (zZM P r (e.put o.dst v) h K)
def zAeK (D:List Nat)(j:Oper):Bool:=zAeJ D j&&(match j.dst with|some d=>has D d|none=>false)
def zJL:List Item->List Nat->Option (List Nat)
 | [],D=>some D
 | (o,rs)::r,D=>bif zAeJ D o&&rs.all (zAeK (addD o.dst D)) then zJL r (addD o.dst D) else none
theorem zTX {P:Program}{e:Env}{h:zAx}{p:Prop}:∀ {rs:List Oper},Mre (zV3 P e h rs) p↔(∀ j∈rs,zRA (opR P j.op (ev e) h)=some (zAli e j.dst))/\p
 | []=>by simp[zV3,Mre]
 | j::rs=>by simp only[zV3,Mre,zTX (rs:=rs),List.forall_mem_cons,and_assoc]
theorem zV4 {P:Program}{D:List Nat}{j:Oper}(h:zAeK D j=true){e e1:Env}{hp:zAx}(ha:zF7 D e e1)(hr:zRA (opR P j.op (ev e) hp)=some (zAli e j.dst)):rc P j e1 hp:=by
 simp only[zAeK,zAk]at h
 unfold rc
 cases hd:j.dst with
 | none=>trivial
 | some d =>
  rw[hd]at h hr
  simp only[zAli]at hr ⊢
  rw[<- zN3 (zN6 h.1 ha),hr,ha d (zDI.1 h.2)]
def zRD (g:Nat×Bool)(o:Oper):Bool:=match o.guard with
 | some (j,b)=>Nat.beq j g.1&&(b == g.2)
 | none=>false
def zEY:List Item->List Oper
 | []=>[]
 | (o,_)::r=>o::zEY r
def zIm (g:Nat×Bool):List Item->List Item×List Item
 | []=>([],[])
 | o::r=>bif zRD g o.1 then ((o::(zIm g r).1),(zIm g r).2) else ([],o::r)
theorem zZN (g:Nat×Bool):∀ l,l=(zIm g l).1++(zIm g l).2
 | []=>rfl
 | o::r=>by
  simp only[zIm]
  cases zRD g o.1
  ·rfl
  ·simp only[cond_true,zCA];rw[<- zZN g r]
theorem zXd (g:Nat×Bool):∀ l,∀ o∈(zIm g l).1,zRD g o.1=true
 | [],o,h=>by simp[zIm]at h
 | x::r,o,h=>by
  simp only[zIm]at h
  cases hx:zRD g x.1
  ·rw[hx]at h;simp at h
  ·rw[hx]at h
   rcases zAs.1 h with rfl|h
   ·exact hx
   ·exact zXd g r o h
def zAgx (P:Program)(V:List Nat)(ops:Array Oper):Nat->List Item->Env->zAx->(Env->zAx->Prop)->Prop
 | 0,_,_,_,_=>False
 | _+1,[],e,H,K=>K e H
 | f+1,(o,rs)::rest,e,H,K=>match o.guard with
  | none=>opX P false o (ev e) H λv h=>Mre (zV3 P (e.put o.dst v) h rs) (zAgx P V ops f rest (e.put o.dst v) h K)
  | some g=>match (ops[g.1]?).bind (·.dst) with
   | some t =>
    zLe (both V (zIy (zEY ((o,rs)::(zIm g rest).1))) V).length
     (λk=>Mif (e t) g.2 (zZM P ((o,rs)::(zIm g rest).1) e H λe' h=>Cur.app _ k ((both V (zIy (zEY ((o,rs)::(zIm g rest).1))) V).map e') h)
      (Cur.app _ k ((both V (zIy (zEY ((o,rs)::(zIm g rest).1))) V).map λ_=>undef) H))
     (Cur.of _ λvs h=>zAgx P V ops f (zIm g rest).2 (mg (zIy (zEY ((o,rs)::(zIm g rest).1))) (both V (zIy (zEY ((o,rs)::(zIm g rest).1))) V) e vs) h K)
   | none=>False
def zRE (V:List Nat)(ops:Array Oper):Nat->List Item->List Nat->Option (List Nat)
 | 0,_,_=>none
 | _+1,[],D=>some D
 | f+1,(o,rs)::rest,D=>match o.guard with
  | none=>bif zAeJ D o&&rs.all (zAeK (addD o.dst D)) then zRE V ops f rest (addD o.dst D) else none
  | some g=>match (ops[g.1]?).bind (·.dst) with
   | some t=>bif has D t && !has (zIy (zEY ((o,rs)::(zIm g rest).1))) t then
     (match zJL ((o,rs)::(zIm g rest).1) D with
     | some _=>zRE V ops f (zIm g rest).2 (both V (zIy (zEY ((o,rs)::(zIm g rest).1))) V++rm (zIy (zEY ((o,rs)::(zIm g rest).1))) D)
     | none=>none) else none
   | none=>none
def zNd (P:Program)(ops:Array Oper):List Item->Env->zAx->(Env->zAx->Prop)->Prop
 | [],e,H,K=>K e H
 | (o,rs)::r,e,H,K=>zHH P ops o e H (λe h=>∀ j∈rs,rc P j e h) λe h=>zNd P ops r e h K
theorem zNd.mono {P:Program}{ops:Array Oper}:∀ {l:List Item} {e:Env} {H:zAx} {K K':Env->zAx->Prop},zNd P ops l e H K->(∀ e h,K e h->K' e h)->zNd P ops l e H K'
 | [],_,_,_,_,h,hk=>hk _ _ h
 | (_,_)::_,_,_,_,_,h,hk=>zHH.mono h (λ_ _ a=>a) λ_ _ h=>zNd.mono h hk
theorem zS8 {P:Program}{ops:Array Oper}:∀ {l m:List Item} {e:Env} {H:zAx} {K:Env->zAx->Prop},zNd P ops l e H (λe h=>zNd P ops m e h K)->zNd P ops (l++m) e H K
 | [],_,_,_,_,h=>h
 | (_,_)::_,_,_,_,_,h=>zHH.mono h (λ_ _ a=>a) λ_ _ h=>zS8 h
theorem zMc {o:Oper}{d:Nat}(h:o.dst=some d):∀ {l:List Oper},o∈l->d∈zIy l
 | x::l,hm=>by
  rcases zAs.1 hm with rfl|hm
  ·simp[zIy,h,addD]
  ·have:=zMc h hm
   simp only[zIy,addD]
   cases x.dst<;>simp[this]
theorem zV5 {ops:Array Oper}{g:Nat×Bool}{t:Nat}(ht:(ops[g.1]?).bind (·.dst)=some t){o:Oper}(hsg:zRD g o=true){e1:Env}{b:Bool}(het:e1 t = .bool b):act ops o e1=some (b == g.2):=by
 unfold zRD at hsg
 unfold act
 cases hg:o.guard with
 | none=>simp[hg]at hsg
 | some g' =>
  obtain⟨j,b⟩:=g'
  rw[hg]at hsg
  simp only[zAk,beq_iff_eq]at hsg
  obtain⟨h1,h2⟩:=hsg
  have hj:j=g.1:=zA3 h1
  subst hj h2
  simp[ht,het]
theorem zXe {ops:Array Oper}{g:Nat×Bool}{t:Nat}(ht:(ops[g.1]?).bind (·.dst)=some t){o:Oper}(hsg:zRD g o=true){e1:Env}(het:e1 t ≠ .bool g.2):act ops o e1=some false:=by
 by_cases hb:∃ b,e1 t = .bool b
 ·obtain⟨b,hb⟩:=hb
  rw[zV5 ht hsg hb]
  have:b≠g.2:=λe=>het (e ▸ hb)
  cases b<;>cases hg:g.2<;>simp_all
 ·unfold zRD at hsg
  unfold act
  cases hg:o.guard with
  | none=>simp[hg]at hsg
  | some g' =>
   obtain⟨j,b⟩:=g'
   rw[hg]at hsg
   simp only[zAk,beq_iff_eq]at hsg
   obtain⟨h1,h2⟩:=hsg
   have hj:j=g.1:=zA3 h1
   subst hj h2
   simp only[ht]
   cases hv:e1 t<;>first
    | rfl
    | exact absurd ⟨_,hv⟩ hb
theorem zVf {P:Program}{ops:Array Oper}{g:Nat×Bool}{t:Nat}(ht:(ops[g.1]?).bind (·.dst)=some t):∀ (l:List Item) (D D1:List Nat) (e e1:Env) (H:zAx) (K:Env->zAx->Prop),
  (∀ x∈l,zRD g x.1=true/\(∀ cs b,x.1.op ≠ .select cs b))->t∉zIy (zEY l)->zJL l D=some D1->zF7 D e e1->e1 t = .bool g.2->zZM P l e H K ->
  zNd P ops l e1 H λe1' h=>∃ e',K e' h/\zF7 D1 e' e1'/\∀ i,i∉zIy (zEY l)->e1' i=e1 i
 | [],D,D1,e,e1,H,K,_,_,hc,ha,_,h=>by
  simp only[zJL,zAn]at hc
  subst hc
  exact⟨e,h,ha,λ_ _=>rfl⟩
 | (o,rs)::l,D,D1,e,e1,H,K,hm,hnt,hc,ha,het,h=>by
  simp only[zJL]at hc
  cases hok:(zAeJ D o&&rs.all (zAeK (addD o.dst D))) with
  | false=>rw[hok]at hc;cases hc
  | true =>
   rw[hok]at hc
   simp only[zAk]at hok
   obtain⟨hok,hre⟩:=hok
   obtain⟨hsg,hsel⟩:=hm (o,rs) (by simp)
   have hdt:o.dst≠some t:=λhd=>hnt (zMc hd (by simp[zEY]))
   have hact:act ops o e1=some true:=by rw[zV5 ht hsg het];simp
   refine .inl ⟨hact,?_⟩
   refine zN4 hsel (zN6 hok ha) (zGV h λv h' hh=>?_)
   obtain⟨hr,hh⟩:=zTX.1 hh
   have hnt':t∉zIy (zEY l):=λhm=>hnt (by
    simp only[zEY,zIy,addD];cases o.dst<;>simp[hm])
   refine⟨λj hj=>zV4 (zAw.1 hre j hj) ha.put (hr j hj),?_⟩
   refine zNd.mono (zVf ht l (addD o.dst D) D1 (e.put o.dst v) (e1.put o.dst v) h' K (λo ho=>hm o (by simp[ho])) hnt' hc ha.put (by rw[zJK hdt];exact het) hh) ?_
   rintro e1' h ⟨e',hk,hag,hun⟩
   refine⟨e',hk,hag,λi hi=>?_⟩
   have hi':i∉zIy (zEY l):=λhm=>hi (by simp only[zEY,zIy,addD];cases o.dst<;>simp[hm])
   rw[hun i hi',zJK (λhd=>hi (zMc hd (by simp[zEY])))]
theorem zXf {P:Program}{ops:Array Oper}{g:Nat×Bool}{t:Nat}(ht:(ops[g.1]?).bind (·.dst)=some t):∀ (l:List Item) (e1:Env) (H:zAx) (K:Env->zAx->Prop),
  (∀ x∈l,zRD g x.1=true)->t∉zIy (zEY l)->e1 t ≠ .bool g.2->(∀ e1':Env,(∀ i,i∈zIy (zEY l)->e1' i=undef)->(∀ i,i∉zIy (zEY l)->e1' i=e1 i)->K e1' H)->zNd P ops l e1 H K
 | [],e1,H,K,_,_,_,h=>h e1 (λi hi=>by simp[zEY,zIy]at hi) (λ_ _=>rfl)
 | (o,rs)::l,e1,H,K,hm,hnt,het,h=>by
  have hdt:o.dst≠some t:=λhd=>hnt (zMc hd (by simp[zEY]))
  have hsg:=hm (o,rs) (by simp)
  have hact:act ops o e1=some false:=zXe ht hsg het
  refine .inr ⟨hact,?_⟩
  have hnt':t∉zIy (zEY l):=λhm=>hnt (by simp only[zEY,zIy,addD];cases o.dst<;>simp[hm])
  refine zXf ht l (e1.put o.dst undef) H K (λo ho=>hm o (by simp[ho])) hnt' (by rw[zJK hdt];exact het) λe1' h1 h2=>h e1' (λi hi=>?_) (λi hi=>?_)
  ·by_cases hl:i∈zIy (zEY l)
   ·exact h1 i hl
   ·rw[h2 i hl]
    have:o.dst=some i:=by
     simp only[zEY,zIy,addD]at hi
     cases hd:o.dst with
     | none=>rw[hd]at hi;exact absurd hi hl
     | some d =>
      rw[hd]at hi
      rcases zAs.1 hi with rfl|hi
      ·rfl
      ·exact absurd hi hl
    rw[this,zN5]
  ·have hi':i∉zIy (zEY l):=λhm=>hi (by simp only[zEY,zIy,addD];cases o.dst<;>simp[hm])
   rw[h2 i hi',zJK (λhd=>hi (zMc hd (by simp[zEY])))]
theorem zRF:∀ {l:List Item} {D D1:List Nat},zJL l D=some D1->∀ i,i∈zIy (zEY l)\/i∈D->i∈D1
 | [],D,D1,h,i,hi=>by
  simp only[zJL,zAn]at h
  subst h
  rcases hi with hi|hi
  ·simp[zEY,zIy]at hi
  ·exact hi
 | (o,rs)::l,D,D1,h,i,hi=>by
  simp only[zJL]at h
  cases hok:(zAeJ D o&&rs.all (zAeK (addD o.dst D))) with
  | false=>rw[hok]at h;cases h
  | true =>
   rw[hok]at h
   refine zRF h i ?_
   simp only[zEY,zIy,addD]at hi ⊢
   cases hd:o.dst with
   | none=>rw[hd]at hi;exact hi
   | some d =>
    rw[hd]at hi
    rcases hi with hi|hi
    ·rcases zAs.1 hi with rfl|hi
     ·exact .inr (by simp)
     ·exact .inl hi
    ·exact .inr (by simp[hi])
theorem zRG {P:Program}{V:List Nat}{ops:Array Oper}:∀ (f:Nat) (l:List Item) (D D':List Nat) (e e1:Env) (H:zAx) (K:Env->zAx->Prop),(∀ x∈l,∀ cs b,x.1.op ≠ .select cs b) ->
  zRE V ops f l D=some D'->zF7 D e e1->zAgx P V ops f l e H K->zNd P ops l e1 H λe1' h=>∃ e',K e' h/\zF7 D' e' e1'
 | 0,_,_,_,_,_,_,_,_,hc,_,_=>by simp[zRE]at hc
 | f+1,[],D,D',e,e1,H,K,_,hc,ha,h=>by
  simp only[zRE,zAn]at hc
  subst hc
  exact⟨e,h,ha⟩
 | f+1,(o,rs)::rest,D,D',e,e1,H,K,hsel,hc,ha,h=>by
  simp only[zRE]at hc
  simp only[zAgx]at h
  cases hg:o.guard with
  | none =>
   simp only[hg]at hc h
   cases hok:(zAeJ D o&&rs.all (zAeK (addD o.dst D))) with
   | false=>rw[hok]at hc;cases hc
   | true =>
    rw[hok]at hc
    simp only[zAk]at hok
    obtain⟨hok,hre⟩:=hok
    refine .inl ⟨by simp[act,hg],?_⟩
    refine zN4 (hsel (o,rs) (by simp)) (zN6 hok ha) (zGV h λv h' hh=>?_)
    obtain⟨hr,hh⟩:=zTX.1 hh
    exact⟨λj hj=>zV4 (zAw.1 hre j hj) ha.put (hr j hj),zRG f rest (addD o.dst D) D' _ _ h' K (λo ho=>hsel o (by simp[ho])) hc ha.put hh⟩
  | some g =>
   simp only[hg]at hc h
   cases ht:(ops[g.1]?).bind (·.dst) with
   | none=>simp[ht]at hc
   | some t =>
    simp only[ht]at hc h
    generalize hG:(o,rs)::(zIm g rest).1=G at hc h
    have hsplit:(o,rs)::rest=G++(zIm g rest).2:=by
     rw[<- hG,zCA,<- zZN g rest]
    have hmG:∀ x∈G,zRD g x.1=true:=by
     intro x hx
     rw[<- hG]at hx
     rcases zAs.1 hx with rfl|hx
     ·simp[zRD,hg]
     ·exact zXd g rest x hx
    cases hck:(has D t && !has (zIy (zEY G)) t) with
    | false=>rw[hck]at hc;cases hc
    | true =>
     rw[hck]at hc
     simp only[zAk,zBt]at hck
     obtain⟨hDt,hAt⟩:=hck
     have hnt:t∉zIy (zEY G):=λhm=>by rw[zDI.2 hm]at hAt;cases hAt
     cases hcp:zJL G D with
     | none=>simp[hcp]at hc
     | some D1 =>
      simp only[hcp,cond_true]at hc
      have hrest:∀ x∈(zIm g rest).2,∀ cs b,x.1.op ≠ .select cs b:=λx hx=>hsel x (by rw[hsplit];simp[hx])
      rw[hsplit]
      refine zS8 ?_
      have idle:e1 t ≠ .bool g.2->Cur.app (both V (zIy (zEY G)) V).length (Cur.of (both V (zIy (zEY G)) V).length λvs h=>zAgx P V ops f (zIm g rest).2 (mg (zIy (zEY G)) (both V (zIy (zEY G)) V) e vs) h K) ((both V (zIy (zEY G)) V).map λ_=>undef) H ->
        zNd P ops G e1 H λe h=>zNd P ops (zIm g rest).2 e h λe1' h=>∃ e',K e' h/\zF7 D' e' e1':=λhne hk=>by
       refine zXf ht G e1 H _ hmG hnt hne λe1' h1 h2=>?_
       rw[Cur.app_of (by simp)]at hk
       refine zRG f _ _ D' _ _ H K hrest hc ?_ hk
       refine zRC rfl ha h2 ?_
       refine zBW λi hi=>?_
       have:=(zBd.1 hi).2
       simp only[zAk]at this
       exact(h1 i (zDI.1 this.1)).symm
      rcases h with ⟨b,heb,hyes,hno⟩|⟨hnb,hno⟩
      ·have het:e1 t = .bool b:=by rw[<- ha t (zDI.1 hDt)];exact heb
       by_cases hb:b=g.2
       ·subst hb
        refine zNd.mono (zVf ht G D D1 e e1 H _ (λx hx=>⟨hmG x hx,hsel x (by rw[hsplit];simp[hx])⟩) hnt hcp ha het (hyes rfl)) ?_
        rintro e1' h' ⟨e',hk,hag,hun⟩
        rw[Cur.app_of (by simp)]at hk
        refine zRG f _ _ D' _ _ h' K hrest hc ?_ hk
        refine zRC rfl ha hun ?_
        refine zBW λi hi=>?_
        have:=(zBd.1 hi).2
        simp only[zAk]at this
        exact hag i (zRF hcp i (.inl (zDI.1 this.1)))
       ·have hb':b = !g.2:=by cases b<;>cases hq:g.2<;>simp_all
        exact idle (by rw[het];intro he;cases he;exact hb rfl) (hno hb')
      ·exact idle (by rw[<- ha t (zDI.1 hDt)];exact hnb _) hno
def zI4 (ops:Array Oper)(rem:List Nat)(i:Nat):Bool:=match ops[i]? with
 | some o=>o.after.toList.all λg=>!(Region.binds .any g&&has rem g.on)
 | none=>false
def zV6 (p:Nat->Bool):List Nat->Option Nat
 | []=>none
 | a::l=>bif p a then some a else zV6 p l
def zYB (P:Program)(ops:Array Oper)(i:Nat):Bool:=match ops[i]? with
 | some o=>Nat.ble (cls P o.op) 1
 | none=>false
def zAhY (P:Program)(ops:Array Oper):Nat->List Nat->List Nat
 | 0,_=>[]
 | f+1,rem=>match zV6 (λi=>zI4 ops rem i&&zYB P ops i) rem with
  | some i=>i::zAhY P ops f (rem.filter λj=>!Nat.beq i j)
  | none=>match zV6 (zI4 ops rem) rem with
   | some i=>i::zAhY P ops f (rem.filter λj=>!Nat.beq i j)
   | none=>[]
def uni:List Nat->List Nat->List Nat
 | [],m=>m
 | a::l,m=>bif has m a then uni l m else uni l (a::m)
def zAce (o:Oper):List Nat:=o.after.toList.filterMap λg=>bif Region.binds .any g then some g.on else none
def zAlF (acc:List (List Nat)):List Oper->List (List Nat)
 | []=>acc
 | o::l=>zAlF (acc++[(zAce o).foldl (λm j=>uni (acc.getD j []) m) (zAce o)]) l
def zAlj (ops:Array Oper):List (List Nat):=zAlF [] ops.toList
def zAcf (P:Program)(ops:Array Oper)(bef:List Nat)(i:Nat):List Nat:=match ops[i]? with
 | some o=>bif Nat.ble (cls P o.op) 1 then [] else bef.filter λj=>match ops[j]? with
  | some oj=>Nat.beq (cls P oj.op) 1 && !has ((zAlj ops).getD i []) j
  | none=>false
 | none=>[]
def zYC (P:Program)(ops:Array Oper):List Nat->List Nat->List (Nat×List Nat)
 | _,[]=>[]
 | bef,i::l=>(i,zAcf P ops bef i)::zYC P ops (i::bef) l
def lk:List (Nat×List Nat)->Nat->List Nat
 | [],_=>[]
 | (j,r)::l,i=>bif Nat.beq i j then r else lk l i
def zXg (o:Oper)(l:List Nat):Bool:=match o.dst with
 | some d=>has l d
 | none=>false
def zAlk (P:Program)(ops:Array Oper)(tab:List (Nat×List Nat))(x y:Nat):Bool:=match ops[x]?,ops[y]? with
 | some ox,some oy =>
  (has ((zAlj ops).getD y []) x || (zTV P ops ox oy&&(!(Nat.beq (cls P ox.op) 1) || Nat.ble (cls P oy.op) 1 || (has (lk tab y) x&&ox.dst.isSome && !zXg ox (ox.looksAt ops))))) &&
  !(oy.after.toList.isEmpty&&false) && !(ox.after.toList.any λg=>Region.binds .any g&&Nat.beq g.on y) &&
  (!(Nat.beq (cls P ox.op) 1) || (!zXg oy (ox.looksAt ops) && !zXg oy ox.dst.toList))
 | _,_=>false
def pwB (r:Nat->Nat->Bool):List Nat->Bool
 | []=>true
 | x::l=>l.all (r x)&&pwB r l
def ndB:List Nat->Bool
 | []=>true
 | x::l=>!has l x&&ndB l
def zAeL (n:Nat)(ops:Array Oper):Bool:=(List.range ops.size).all λi=>match ops[i]? with
 | some o=>zYs n o&&o.after.toList.all λg=>!(Region.binds .any g) || (!Nat.beq g.on i&&Nat.ble (g.on+1) ops.size)
 | none=>false
def zAeM (P:Program)(ops:Array Oper):List Nat:=zAhY P ops ops.size (List.range ops.size)
def zAgy (P:Program)(ops:Array Oper):List (Nat×List Nat):=zYC P ops [] (zAeM P ops)
def zAcg (P:Program)(n:Nat)(ops:Array Oper)(ord:List Nat):Bool :=
 P.follows .mixedOrders&&zAeL n ops&&ndB ord&&ord.all (λi=>Nat.ble (i+1) ops.size)&&(List.range ops.size).all (has ord)&&pwB (zAlk P ops (zAgy P ops)) ord
def zS9 (ops:Array Oper):List (Nat×List Nat)->List Item
 | []=>[]
 | (i,rs)::l=>match ops[i]? with
  | some o=>(o,rs.filterMap (ops[·]?))::zS9 ops l
  | none=>zS9 ops l
def zKE:List Oper->List Item
 | []=>[]
 | o::l=>(o,[])::zKE l
def zTa (P:Program)(ops:Array Oper)(draw:Bool):List Item:=bif draw then zS9 ops (zAgy P ops) else zKE ops.toList
theorem zZO {r:Nat->Nat->Bool}:∀ {l:List Nat},pwB r l=true->l.Pairwise λa b=>r a b=true
 | [],_ => .nil
 | x::l,h=>by
  simp only[pwB,zAk]at h
  exact .cons (λy hy=>zAw.1 h.1 y hy) (zZO h.2)
theorem zTA:∀ {l:List Nat},ndB l=true->l.Nodup
 | [],_ => .nil
 | x::l,h=>by
  simp only[ndB,zAk,zBt]at h
  exact zCP.2 ⟨λhm=>(by rw[zDI.2 hm]at h;cases h.1),zTA h.2⟩
theorem zAch {l m:List Nat}{x:Nat}:x∈uni l m->x∈l\/x∈m:=by
 induction l generalizing m with
 | nil=>exact .inr
 | cons a l ih =>
  simp only[uni]
  cases has m a with
  | true=>intro h;rcases ih h with h|h<;>simp[h]
  | false=>intro h;rcases ih h with h|h<;>simp_all;rcases h with h|h<;>simp[h]
theorem zXh {o:Oper}{x:Nat}(h:x∈zAce o):∃ g∈o.after,Region.binds .any g=true/\g.on=x:=by
 obtain⟨g,hg,hx⟩:=List.mem_filterMap.1 h
 cases hb:Region.binds .any g with
 | false=>rw[hb]at hx;cases hx
 | true=>rw[hb]at hx;cases hx;exact⟨g,zBy.1 hg,hb,rfl⟩
theorem zZP {acc:List (List Nat)}{x:Nat}:∀ {l m:List Nat},x∈l.foldl (λm j=>uni (acc.getD j []) m) m->x∈m\/∃ j∈l,x∈acc.getD j []
 | [],m,h => .inl h
 | j::l,m,h=>by
  rcases zZP (l:=l) h with h|⟨j',hj,h⟩
  ·rcases zAch h with h|h
   ·exact .inr ⟨j,by simp,h⟩
   ·exact .inl h
  ·exact .inr ⟨j',by simp[hj],h⟩
theorem zXi {ops:Array Oper}:∀ (l:List Oper) (acc:List (List Nat)),(∀ j o,l[j]? = some o->ops[acc.length+j]? = some o)->(∀ y x,x∈acc.getD y []->Anc ops x y)->∀ y x,x∈(zAlF acc l).getD y []->Anc ops x y
 | [],acc,_,h,y,x,hx=>h y x hx
 | o::l,acc,hl,h,y,x,hx=>by
  refine zXi l (acc++[(zAce o).foldl (λm j=>uni (acc.getD j []) m) (zAce o)]) (λj o' ho'=>?_) (λy x hx=>?_) y x hx
  ·have:=hl (j+1) o' (by simpa using ho')
   rw[zAt]
   simp only[zAS,List.length_nil]
   rw[show acc.length+(0+1)+j=acc.length+(j+1) by omega]
   exact this
  ·rw[zCk,List.getElem?_append]at hx
   split at hx
   ·exact h y x (by rw[zCk];exact hx)
   ·by_cases hy:y=acc.length
    ·subst hy
     simp only[Nat.sub_self,zC5,Option.getD_some]at hx
     have ho:ops[acc.length]? = some o:=by simpa using hl 0 o (by simp)
     rcases zZP hx with hx|⟨j,hj,hx⟩
     ·exact .one ⟨o,ho,zXh hx⟩
     ·exact .more (h j x hx) ⟨o,ho,zXh hj⟩
    ·rename_i hlt
     rw[zDj (by simp;omega)]at hx
     simp at hx
theorem zXj {ops:Array Oper}{x y:Nat}(h:has ((zAlj ops).getD y []) x=true):Anc ops x y :=
 zXi ops.toList [] (λj o ho=>by simpa using ho) (λy x hx=>by simp at hx) y x (zDI.1 h)
theorem zAci {o:Oper}{x:Nat}:(o.after.toList.any λg=>Region.binds .any g&&Nat.beq g.on x)=true↔∃ g∈o.after,Region.binds .any g=true/\g.on=x:=by
 simp only[zBz,zAk]
 constructor
 ·rintro⟨g,hg,hb,hx⟩;exact⟨g,zBy.1 hg,hb,zA3 hx⟩
 ·rintro⟨g,hg,hb,rfl⟩;exact⟨g,zBy.2 hg,hb,zB1 _⟩
theorem zKF {o:Oper}{l:List Nat}(h:zXg o l=false){d:Nat}(hd:o.dst=some d):d∉l:=by
 intro hm
 simp only[zXg,hd]at h
 rw[zDI.2 hm]at h
 cases h
theorem zAcj {P:Program}{ops:Array Oper}{tab:List (Nat×List Nat)}{x y:Nat}(h:zAlk P ops tab x y=true):Rel P ops (lk tab) x y:=by
 unfold zAlk at h
 cases hx:ops[x]? with
 | none=>simp[hx]at h
 | some ox =>
  cases hy:ops[y]? with
  | none=>simp[hx,hy]at h
  | some oy =>
   simp only[hx,hy,zAk,zB9,zBt]at h
   obtain⟨⟨⟨h1,_⟩,h2⟩,h3⟩:=h
   refine⟨?_,?_,?_⟩
   ·rcases h1 with h1|⟨h1,h4⟩
    ·exact .inl (zXj h1)
    ·refine .inr ⟨ox,oy,hx,hy,h1,λc1 c0 c2=>?_⟩
     rcases h4 with (h4|h4)|⟨⟨h4,h5⟩,h6⟩
     ·rw[c1]at h4;cases h4
     ·rcases zAhW.1 h4 with h4|h4
      ·exact absurd h4 c0
      ·exact absurd h4 c2
     ·obtain⟨d,hd⟩:=zCb.1 h5
      exact⟨zDI.1 h4,d,hd,zKF h6 hd⟩
   ·rintro⟨ox',hox',g,hg,hb,hgo⟩
    rw[hx]at hox';cases hox'
    rw[zAci.2 ⟨g,hg,hb,hgo⟩]at h2
    cases h2
   ·intro ox' oy' hx' hy' c1 d hd
    rw[hx]at hx';cases hx'
    rw[hy]at hy';cases hy'
    rcases h3 with h3|⟨h3,h4⟩
    ·rw[c1]at h3;cases h3
    ·refine⟨zKF h3 hd,λhe=>?_⟩
     exact zKF h4 hd (by rw[he];simp)
theorem zAgz {tab:List (Nat×List Nat)}{i k:Nat}(h:k∈lk tab i):∃ r,(i,r)∈tab/\k∈r:=by
 induction tab with
 | nil=>simp[lk]at h
 | cons p tab ih =>
  obtain⟨j,r⟩:=p
  simp only[lk]at h
  cases hb:Nat.beq i j with
  | true=>rw[hb]at h;have:=zA3 hb;subst this;exact⟨r,by simp,h⟩
  | false=>rw[hb]at h;obtain⟨r',h1,h2⟩:=ih h;exact⟨r',by simp[h1],h2⟩
theorem zTY {P:Program}{ops:Array Oper}{i:Nat}{r:List Nat}:∀ {l bef:List Nat},(i,r)∈zYC P ops bef l->∃ b,r=zAcf P ops b i
 | [],_,h=>by simp[zYC]at h
 | x::l,bef,h=>by
  simp only[zYC,zAs,Prod.mk.injEq]at h
  rcases h with ⟨rfl,rfl⟩|h
  ·exact⟨bef,rfl⟩
  ·exact zTY h
theorem zXk {P:Program}{ops:Array Oper}:∀ {l bef:List Nat},(zYC P ops bef l).map (·.1)=l
 | [],_=>rfl
 | x::l,bef=>by simp[zYC,zXk (l:=l)]
theorem zXl:∀ {tab:List (Nat×List Nat)} {i:Nat} {r:List Nat},(tab.map (·.1)).Nodup->(i,r)∈tab->lk tab i=r
 | (j,r')::tab,i,r,hn,h=>by
  simp only[zA0,zCP]at hn
  simp only[lk]
  rcases zAs.1 h with h|h
  ·cases h;rw[zB1];rfl
  ·have hne:Nat.beq i j=false:=by
    cases hb:Nat.beq i j with
    | false=>rfl
    | true=>exact absurd (zAo.2 ⟨(i,r),h,zA3 hb⟩) hn.1
   rw[hne]
   exact zXl hn.2 h
theorem zTZ {P:Program}{ops:Array Oper}{tab0:List (Nat×List Nat)}:∀ {tab:List (Nat×List Nat)} {seen:List Nat} {e:Env} {H:zAx} {K:Env->zAx->Prop},(∀ i r,(i,r)∈tab->lk tab0 i=r/\i<ops.size) ->
  zNd P ops (zS9 ops tab) e H K->zQz P ops (lk tab0) seen (tab.map (·.1)) e H K
 | [],_,_,_,_,_,h=>h
 | (i,r)::tab,seen,e,H,K,ht,h=>by
  obtain⟨h1,hlt⟩:=ht i r (by simp)
  have ho:ops[i]? = some ops[i]:=zBv hlt
  simp only[zS9,ho]at h
  simp only[zA0,zQz,ho]
  refine zHH.mono h (λe h hr j hj _ oj hoj=>hr oj ?_) λe h hh=>zTZ (λi r hm=>ht i r (by simp[hm])) hh
  rw[h1]at hj
  exact List.mem_filterMap.2 ⟨j,hj,hoj⟩
theorem zT0 {P:Program}{ops:Array Oper}:∀ {l:List Oper} {e:Env} {H:zAx} {K:Env->zAx->Prop},zNd P ops (zKE l) e H K->zYz P false ops l e H K
 | [],_,_,_,h=>h
 | o::l,e,H,K,h=>(zHH.step h).mono λe h hh=>zT0 hh
theorem zSw {P:Program}{ops:Array Oper}:∀ {l:List Item} {e:Env} {H:zAx} {K:Env->zAx->Prop},zNd P ops l e H K->zNd P ops l e H λe' h=>K e' h/\∀ i,i∉zIy (zEY l)->e' i=e i
 | [],e,H,K,h=>⟨h,λ_ _=>rfl⟩
 | (o,rs)::l,e,H,K,h=>by
  have step:∀ v h',zNd P ops l (e.put o.dst v) h' K->zNd P ops l (e.put o.dst v) h' λe' h=>K e' h/\∀ i,i∉zIy (zEY ((o,rs)::l))->e' i=e i:=λv h' hh =>
   zNd.mono (zSw hh) λe' h'' hk=>⟨hk.1,λi hi=>by
    have hi':i∉zIy (zEY l):=λhm=>hi (by simp only[zEY,zIy,addD];cases o.dst<;>simp[hm])
    rw[hk.2 i hi',zJK (λhd=>hi (zMc hd (by simp[zEY])))]⟩
  rcases h with ⟨a,h⟩|⟨a,h⟩
  ·exact .inl ⟨a,zGV h λv h' hh=>⟨hh.1,step v h' hh.2⟩⟩
  ·exact .inr ⟨a,step undef H h⟩
theorem zAeN {l m:List Oper}(h:∀ o∈l,o∈m){i:Nat}(hi:i∈zIy l):i∈zIy m:=by
 induction l with
 | nil=>simp[zIy]at hi
 | cons o l ih =>
  simp only[zIy,addD]at hi
  cases hd:o.dst with
  | none=>rw[hd]at hi;exact ih (λo ho=>h o (by simp[ho])) hi
  | some d =>
   rw[hd]at hi
   rcases zAs.1 hi with rfl|hi
   ·exact zMc hd (h o (by simp))
   ·exact ih (λo ho=>h o (by simp[ho])) hi
theorem zXm:∀ {l:List Oper},zEY (zKE l)=l
 | []=>rfl
 | o::l=>by simp[zKE,zEY,zXm (l:=l)]
theorem zTB {ops:Array Oper}:∀ {tab:List (Nat×List Nat)} {x:Item},x∈zS9 ops tab->∃ i:Nat,ops[i]? = some x.1
 | [],x,h=>by simp[zS9]at h
 | (i,r)::tab,x,h=>by
  simp only[zS9]at h
  cases ho:ops[i]? with
  | none=>rw[ho]at h;exact zTB h
  | some o =>
   rw[ho]at h
   rcases zAs.1 h with rfl|h
   ·exact⟨i,ho⟩
   ·exact zTB h
theorem zVg {o:Oper}:∀ {l:List Item},o∈zEY l->∃ x∈l,x.1=o
 | (o',rs)::l,h=>by
  rcases zAs.1 h with rfl|h
  ·exact⟨(o,rs),by simp,rfl⟩
  ·obtain⟨x,hx,e⟩:=zVg h;exact⟨x,by simp[hx],e⟩
theorem zXn {x:Item}:∀ {l:List Oper},x∈zKE l->x.1∈l
 | o::l,h=>by
  rcases zAs.1 h with rfl|h
  ·simp
  ·simp[zXn h]
inductive Tr where
 | done
 | stop
 | lt (i:Nat) (t:Tr)
 | hv (i:Nat) (rs:List Nat) (t more:Tr)
def del (i:Nat)(l:List Nat):List Nat:=l.filter λj=>!Nat.beq i j
def alts (g:Nat->Tr->Tr):List Nat->Tr
 | [] => .stop
 | i::l=>g i (alts g l)
def zAck (P:Program)(ops:Array Oper):Nat->List Nat->List Nat->Tr
 | 0,_,_ => .done
 | f+1,bef,rem=>match zV6 (λi=>zI4 ops rem i&&zYB P ops i) rem with
  | some i => .lt i (zAck P ops f (i::bef) (del i rem))
  | none=>match rem with
   | [] => .done
   | _::_=>alts (λi more => .hv i (zAcf P ops bef i) (zAck P ops f (i::bef) (del i rem)) more) (rem.filter (zI4 ops rem))
def zAhZ (P:Program)(ops:Array Oper)(rs:List Nat)(i j:Nat):Bool:=match ops[j]?,ops[i]? with
 | some oj,some oi =>
  (!(Nat.ble (cls P oj.op) 1) || has ((zAlj ops).getD i []) j || (zTV P ops oj oi&&(!(Nat.beq (cls P oj.op) 1) || Nat.ble (cls P oi.op) 1 || (has rs j&&oj.dst.isSome && !zXg oj (oj.looksAt ops))))) &&
  (!(Nat.beq (cls P oj.op) 1) || (!zXg oi (oj.looksAt ops) && !zXg oi oj.dst.toList))
 | _,_=>false
def zYD:Tr->Nat->Bool
 | .hv i _ _ more,y=>Nat.beq i y || zYD more y
 | _,_=>false
def zAcl (P:Program)(ops:Array Oper)(k:Nat):Bool:=match ops[k]? with
 | some o=>Nat.beq (cls P o.op) 1
 | none=>false
def wfT (P:Program)(ops:Array Oper):Tr->List Nat->List Nat->Bool->Bool
 | .done,rem,_,top=>top&&rem.isEmpty
 | .stop,_,_,top=>!top
 | .lt i t,rem,bef,top=>top&&(has rem i&&(zI4 ops rem i&&(zYB P ops i&&(bef.all (zAhZ P ops [] i)&&wfT P ops t (del i rem) (i::bef) true))))
 | .hv i rs t more,rem,bef,top=>(!top || rem.all λy=>!zI4 ops rem y || zYD (.hv i rs t more) y)&&(has rem i&&(zI4 ops rem i&&(!zYB P ops i&&(bef.all (zAhZ P ops rs i) &&
   (rs.all (zAcl P ops)&&(wfT P ops t (del i rem) (i::bef) true&&wfT P ops more rem bef false))))))
def zMd (P:Program)(ops:Array Oper):List Nat->Tr->Env->zAx->(Env->zAx->Prop)->Prop
 | _,.done,e,H,K=>K e H
 | _,.stop,_,_,_=>True
 | seen,.lt i t,e,H,K=>match ops[i]? with
  | none=>False
  | some o=>zHH P ops o e H (Ob P ops (λ_=>[]) seen i) λe' h'=>zMd P ops (i::seen) t e' h' K
 | seen,.hv i rs t more,e,H,K=>(match ops[i]? with
  | none=>False
  | some o=>zHH P ops o e H (Ob P ops (λ_=>rs) seen i) λe' h'=>zMd P ops (i::seen) t e' h' K)/\zMd P ops seen more e H K
theorem zSx {i j:Nat}{l:List Nat}:j∈del i l↔j∈l/\j≠i:=by
 unfold del
 rw[zBd]
 constructor
 ·rintro⟨h,hb⟩
  refine⟨h,λe=>?_⟩
  subst e
  rw[zB1]at hb;cases hb
 ·rintro⟨h,hne⟩
  refine⟨h,?_⟩
  cases hb:Nat.beq i j with
  | false=>rfl
  | true=>exact absurd (zA3 hb).symm hne
theorem zAeO {i j:Nat}{l:List Nat}:del i (del j l)=del j (del i l):=by
 unfold del
 rw[List.filter_filter,List.filter_filter]
 congr 1;funext x;exact Bool.and_comm _ _
theorem zAjI {i:Nat}{l:List Nat}(h:i∈l):(del i l).length<l.length:=by
 unfold del
 induction l with
 | nil=>cases h
 | cons a l ih =>
  rw[zCd]
  by_cases hai:i=a
  ·subst hai
   rw[zB1]
   simp only[zAg,zAb,if_false,zAS]
   exact Nat.lt_succ_of_le (zBi _ _)
  ·have hm:=(zAs.1 h).resolve_left hai
   have:=ih hm
   split
   ·simp only[zAS];omega
   ·simp only[zAS];omega
theorem zTb {ops:Array Oper}{rem rem':List Nat}{i:Nat}(h:zI4 ops rem i=true)(hs:∀ x,x∈rem'->x∈rem):zI4 ops rem' i=true:=by
 unfold zI4 at h ⊢
 cases ho:ops[i]? with
 | none=>simp[ho]at h
 | some o =>
  simp only[ho,zAw,zBt,Bool.and_eq_false_imp]at h ⊢
  intro g hg hb
  have:=h g hg hb
  cases hr:has rem' g.on with
  | false=>rfl
  | true=>rw[zDI.2 (hs _ (zDI.1 hr))]at this;cases this
theorem zMd.less {P:Program}{ops:Array Oper}:∀ {t:Tr} {seen seen':List Nat} {e:Env} {H:zAx} {K:Env->zAx->Prop},(∀ k,k∈seen'->k∈seen)->zMd P ops seen t e H K->zMd P ops seen' t e H K
 | .done,_,_,_,_,_,_,h=>h
 | .stop,_,_,_,_,_,_,_=>trivial
 | .lt i t,seen,seen',e,H,K,hs,h=>by
  simp only[zMd]at h ⊢
  cases ho:ops[i]? with
  | none=>simp[ho]at h
  | some o =>
   simp only[ho]at h ⊢
   exact zHH.mono h (λe' h' a j hj hm=>a j hj (hs j hm)) λe' h' b=>zMd.less (λk hk=>by
    rcases zAs.1 hk with rfl|hk
    ·simp
    ·simp[hs k hk]) b
 | .hv i rs t more,seen,seen',e,H,K,hs,h=>by
  simp only[zMd]at h ⊢
  refine⟨?_,zMd.less hs h.2⟩
  have h:=h.1
  cases ho:ops[i]? with
  | none=>simp[ho]at h
  | some o =>
   simp only[ho]at h ⊢
   exact zHH.mono h (λe' h' a j hj hm=>a j hj (hs j hm)) λe' h' b=>zMd.less (λk hk=>by
    rcases zAs.1 hk with rfl|hk
    ·simp
    ·simp[hs k hk]) b
theorem zT1 {P:Program}{ops:Array Oper}:∀ {t:Tr} {rem bef bef':List Nat} {top:Bool},(∀ k,k∈bef'->k∈bef)->wfT P ops t rem bef top=true->wfT P ops t rem bef' top=true
 | .done,_,_,_,_,_,h=>h
 | .stop,_,_,_,_,_,h=>h
 | .lt i t,rem,bef,bef',top,hs,h=>by
  simp only[wfT,zAk]at h ⊢
  obtain⟨h1,h2,h3,h4,h5,h6⟩:=h
  exact⟨h1,h2,h3,h4,zAw.2 λk hk=>zAw.1 h5 k (hs k hk),zT1 (λk hk=>by
    rcases zAs.1 hk with rfl|hk
    ·simp
    ·simp[hs k hk]) h6⟩
 | .hv i rs t more,rem,bef,bef',top,hs,h=>by
  simp only[wfT,zAk]at h ⊢
  obtain⟨h1,h2,h3,h4,h5,h6,h7,h8⟩:=h
  exact⟨h1,h2,h3,h4,zAw.2 λk hk=>zAw.1 h5 k (hs k hk),h6,zT1 (λk hk=>by
    rcases zAs.1 hk with rfl|hk
    ·simp
    ·simp[hs k hk]) h7,zT1 hs h8⟩
theorem zVh {P:Program}{ops:Array Oper}{i:Nat}{o:Oper}(ho:ops[i]? = some o):zYB P ops i=true↔(cls P o.op=0\/cls P o.op=1):=by
 unfold zYB
 simp only[ho]
 exact zAhW
theorem zAcm {P:Program}{ops:Array Oper}{rs:List Nat}{i j:Nat}(h:zAhZ P ops rs i j=true){oj oi:Oper}(hj:ops[j]? = some oj)(hi:ops[i]? = some oi)(hc:cls P oj.op=1):∀ t,oi.dst=some t->t∉oj.looksAt ops/\oj.dst≠some t:=by
 intro d hd
 simp only[zAhZ,hj,hi,zAk,zB9,zBt]at h
 rcases h.2 with h3|⟨h3,h4⟩
 ·rw[hc]at h3;cases h3
 ·refine⟨zKF h3 hd,λhe=>?_⟩
  exact zKF h4 hd (by rw[he];simp)
theorem zAcn {P:Program}{ops:Array Oper}{rs:List Nat}{i j:Nat}(h:zAhZ P ops rs i j=true){oj oi:Oper}(hj:ops[j]? = some oj)(hi:ops[i]? = some oi)(hl:cls P oj.op=0\/cls P oj.op=1)(hna:¬ Anc ops j i) :
  zTV P ops oj oi=true/\(cls P oj.op=1->cls P oi.op≠0->cls P oi.op≠1->j∈rs/\∃ d,oj.dst=some d/\d∉oj.looksAt ops):=by
 simp only[zAhZ,hj,hi,zAk,zB9,zBt]at h
 rcases h.1 with (h1|h1)|⟨h1,h4⟩
 ·rw[zAhW.2 hl]at h1;cases h1
 ·exact absurd (zXj h1) hna
 ·refine⟨h1,λc1 c0 c2=>?_⟩
  rcases h4 with (h4|h4)|⟨⟨h4,h5⟩,h6⟩
  ·rw[c1]at h4;cases h4
  ·rcases zAhW.1 h4 with h4|h4
   ·exact absurd h4 c0
   ·exact absurd h4 c2
  ·obtain⟨d,hd⟩:=zCb.1 h5
   exact⟨zDI.1 h4,d,hd,zKF h6 hd⟩
theorem pull {P:Program}{ops:Array Oper}(hsel:∀ (x:Nat) (o:Oper),ops[x]? = some o->∀ cs b,o.op ≠ .select cs b){i:Nat}{o:Oper}(ho:ops[i]? = some o):∀ (t:Tr) (rem bef:List Nat) (top:Bool),wfT P ops t rem bef top=true->i∈rem->zI4 ops rem i=true ->
  (top=false->zYD t i=true)->(∀ j∈rem,¬ Anc ops j i) ->
  ∃ t' rs,(∀ k∈bef,zAhZ P ops rs i k=true)/\(∀ k∈rs,zAcl P ops k=true)/\(zYB P ops i=true->rs=[])/\wfT P ops t' (del i rem) bef true=true /\
   ∀ seen,(∀ k∈seen,k∈bef)->∀ (e:Env) (H:zAx) (K:Env->zAx->Prop),zMd P ops seen t e H K->zHH P ops o e H (Ob P ops (λ_=>rs) seen i) λe1 h1=>zMd P ops seen t' e1 h1 K
 | .done,rem,bef,top,hw,hi,_,_,_=>by
  simp only[wfT,zAk,List.isEmpty_iff]at hw
  rw[hw.2]at hi;cases hi
 | .stop,rem,bef,top,hw,hi,_,hh,_=>by
  simp only[wfT,zBt]at hw
  have:=hh hw
  simp[zYD]at this
 | .lt j t,rem,bef,top,hw,hi,hr,hh,hna=>by
  simp only[wfT,zAk]at hw
  obtain⟨h1,h2,h3,h4,h5,h6⟩:=hw
  have hjr:=zDI.1 h2
  by_cases hij:i=j
  ·subst hij
   refine⟨t,[],λk hk=>zAw.1 h5 k hk,λk hk=>(by cases hk),λ_=>rfl,zT1 (λk hk=>by simp[hk]) h6,λseen hs e H K h=>?_⟩
   simp only[zMd,ho]at h
   exact zHH.mono h (λ_ _ a=>a) λe1 h1 b=>zMd.less (λk hk=>by simp[hk]) b
  ·obtain⟨t',rs,g1,g2,g3,g4,g5⟩:=pull hsel ho t (del j rem) (j::bef) true h6 (zSx.2 ⟨hi,hij⟩) (zTb hr λx hx=>(zSx.1 hx).1) (λh=>by cases h) λk hk=>hna k (zSx.1 hk).1
   refine⟨.lt j t',rs,λk hk=>g1 k (by simp[hk]),g2,g3,?_,λseen hs e H K h=>?_⟩
   ·simp only[wfT,zAk]
    refine⟨by trivial,zDI.2 (zSx.2 ⟨hjr,λe=>hij e.symm⟩),zTb h3 λx hx=>(zSx.1 hx).1,h4,h5,?_⟩
    rw[zAeO];exact g4
   ·cases hj:ops[j]? with
    | none=>simp[zMd,hj]at h
    | some oj =>
     simp only[zMd,hj]at h ⊢
     have hcj:=(zVh hj).1 h4
     have hx:zHH P ops oj e H (Ob P ops (λ_=>[]) seen j) λe1 h1=>zHH P ops o e1 h1 (Ob P ops (λ_=>rs) (j::seen) i) λe2 h2=>zMd P ops (j::seen) t' e2 h2 K :=
      zHH.mono h (λ_ _ a=>a) λe1 h1 b=>g5 (j::seen) (λk hk=>by
       rcases zAs.1 hk with rfl|hk
       ·simp
       ·simp[hs k hk]) e1 h1 K b
     obtain⟨hok,hre⟩:=zAcn (g1 j (by simp)) hj ho hcj (hna j hjr)
     refine swap (hsel j _ hj) (hsel i _ ho) hok (Ci':=Ob P ops (λ_=>rs) seen i) ?_ ?_ hx
     ·intro hi0
      have:=g3 ((zVh ho).2 (.inl hi0))
      subst this
      exact⟨λe h k hk=>(by cases hk),λe h v hc k hk=>(by cases hk)⟩
     ·intro hi0
      refine⟨λe h k hk=>(by cases hk),λe h v hc k hk hm ok hok'=>?_,λhj1 hi1=>?_⟩
      ·have hk1:cls P ok.op=1:=by
        have:=g2 k hk
        simp only[zAcl,hok']at this
        exact zA3 this
       exact(zAcd (ops:=ops) (zAcm (zAw.1 h5 k (hs k hm)) hok' hj hk1)).1 (hc k hk (by simp[hm]) ok hok')
      ·obtain⟨hm,hd⟩:=hre hj1 hi0 hi1
       exact⟨hd,λe h hc=>hc j hm (by simp) oj hj⟩
 | .hv j rs t more,rem,bef,top,hw,hi,hr,hh,hna=>by
  simp only[wfT,zAk]at hw
  obtain⟨h1,h2,h3,h4,h5,h6,h7,h8⟩:=hw
  have hhd:zYD (.hv j rs t more) i=true:=by
   cases top with
   | false=>exact hh rfl
   | true =>
    simp only[zAg,zCs]at h1
    have:=zAw.1 h1 i hi
    rw[hr]at this
    simpa using this
  by_cases hij:i=j
  ·subst hij
   refine⟨t,rs,λk hk=>zAw.1 h5 k hk,λk hk=>zAw.1 h6 k hk,λhl=>?_,zT1 (λk hk=>by simp[hk]) h7,λseen hs e H K h=>?_⟩
   ·rw[hl]at h4;cases h4
   ·simp only[zMd,ho]at h
    exact zHH.mono h.1 (λ_ _ a=>a) λe1 h1 b=>zMd.less (λk hk=>by simp[hk]) b
  ·have hm:zYD more i=true:=by
    simp only[zYD,zB9]at hhd
    rcases hhd with hb|hb
    ·exact absurd (zA3 hb).symm hij
    ·exact hb
   obtain⟨t',rs',g1,g2,g3,g4,g5⟩:=pull hsel ho more rem bef false h8 hi hr (λ_=>hm) hna
   exact⟨t',rs',g1,g2,g3,g4,λseen hs e H K h=>g5 seen hs e H K h.2⟩
theorem zAa0 {ro:Option Nat}{m:Nat}{P:Program}{ops:Array Oper}{n:Nat}{Q:Exit->Act->World->Prop}{K:Env->zAx->Prop}{w0:World}{df:List Deferred}(hokall:∀ (i:Nat) (o:Oper),ops[i]? = some o->zYs n o=true)
  (hin:∀ (i:Nat) (o:Oper),ops[i]? = some o->∀ g∈o.after,Region.binds .any g=true->g.on<ops.size):∀ (fuel:Nat) (R:List Nat) (t:Tr) (listed:Array Bool) (a:Act) (w:World),
  R.length<=fuel->listed.size=ops.size->(∀ i,listed.getD i false=true->∀ x,zAhX ops x i->listed.getD x false=true)->(∀ i,i∈R↔i<ops.size/\listed.getD i true=false)->wfT P ops t R [] true=true->a.tmps.size=n->a.defers=df->zJI w0 w ->
  zMd P ops [] t (zDX a) w.heap K->(∀ a' w',zJI w0 w'->a'.tmps.size=n->a'.defers=df->K (zDX a') w'.heap->Q .normal a' w')->wpAnyIn (Fr ro) m P .any ops Q fuel listed a w:=by
 have hready:∀ (R:List Nat) (t:Tr) (listed:Array Bool),listed.size=ops.size->(∀ i,i∈R↔i<ops.size/\listed.getD i true=false)->wfT P ops t R [] true=true->Region.ready .any ops listed=[]->t = .done:=by
  intro R t listed hls hR hw hr
  have key:∀ x,has R x=true->zI4 ops R x=true->False:=by
   intro x hx hrx
   have hx:=(hR x).1 (zDI.1 hx)
   have:x∈Region.ready .any ops listed:=by
    refine mem_ready.2 ⟨hx.2,ops[x],zBv hx.1,λg hg hb=>?_⟩
    have ho:ops[x]? = some ops[x]:=zBv hx.1
    have hlt:=hin x _ ho g hg hb
    cases hl:listed.getD g.on false with
    | true=>rfl
    | false =>
     exfalso
     have hl':listed.getD g.on true=false:=by
      simp only[zBx]at hl ⊢
      rw[zBv (by omega)]at hl ⊢
      simpa using hl
     have hm:g.on∈R:=(hR g.on).2 ⟨hlt,hl'⟩
     unfold zI4 at hrx
     simp only[ho,zAw,zBt,Bool.and_eq_false_imp]at hrx
     have:=hrx g (zBy.2 hg) hb
     rw[zDI.2 hm]at this;cases this
   rw[hr]at this
   simp at this
  cases t with
  | done=>rfl
  | stop=>simp[wfT]at hw
  | lt i t =>
   simp only[wfT,zAk]at hw
   exact(key i hw.2.1 hw.2.2.1).elim
  | hv i rs t more =>
   simp only[wfT,zAk]at hw
   exact(key i hw.2.1 hw.2.2.1).elim
 intro fuel
 induction fuel with
 | zero =>
  intro R t listed a w hlen hls hcl hR hw hsz hdf hsm h hq
  have:R=[]:=zBo.1 (by omega)
  subst this
  have hr:Region.ready .any ops listed=[]:=by
   cases hr:Region.ready .any ops listed with
   | nil=>rfl
   | cons x l =>
    exfalso
    have hx:x∈Region.ready .any ops listed:=by rw[hr];simp
    obtain⟨h0,o,ho,_⟩:=mem_ready.1 hx
    have:=(hR x).2 ⟨(zBk.1 ho).1,h0⟩
    simp at this
  have:=hready [] t listed hls hR hw hr
  subst this
  exact⟨hr,hq a w hsm hsz hdf h⟩
 | succ fuel ih =>
  intro R t listed a w hlen hls hcl hR hw hsz hdf hsm h hq
  refine⟨λhr=>?_,λi hi=>?_⟩
  ·have:=hready R t listed hls hR hw hr
   subst this
   exact hq a w hsm hsz hdf h
  ·obtain⟨h0,o,ho,hall⟩:=mem_ready.1 hi
   have hilt:=(zBk.1 ho).1
   have hiR:i∈R:=(hR i).2 ⟨hilt,h0⟩
   have hna:∀ j∈R,¬ Anc ops j i:=by
    intro j hj hanc
    have hl:listed.getD j false=true:=zVe hcl (λx ⟨oy,hoy,g,hg,hb,hgo⟩=>by
     rw[ho]at hoy;cases hoy
     rw[<- hgo];exact hall g hg hb) hanc
    have hjR:=(hR j).1 hj
    simp only[zBx]at hl
    have:=hjR.2
    simp only[zBx]at this
    rw[zBv (by omega)]at hl this
    simp_all
   have hri:zI4 ops R i=true:=by
    unfold zI4
    simp only[ho,zAw,zBt,Bool.and_eq_false_imp]
    intro g hg hb
    have hl:=hall g (zBy.1 hg) hb
    cases hm:has R g.on with
    | false=>rfl
    | true =>
     exfalso
     have hgR:=(hR g.on).1 (zDI.1 hm)
     simp only[zBx]at hl
     have:=hgR.2
     simp only[zBx]at this
     rw[zBv (by omega)]at hl this
     simp_all
   obtain⟨t',rs,_,_,_,g4,g5⟩:=pull (λx o hx=>zRB (hokall x o hx)) ho t R [] true hw hiR hri (λh=>by cases h) hna
   have h:=g5 [] (λk hk=>by cases hk) _ _ _ h
   refine zYy ho (hokall i o ho) hsz h.step λa' w' hs hs' hd' hk=>?_
   have hdl:=zAjI hiR
   refine ih (del i R) t' (listed.setIfInBounds i true) a' w' ?_ ?_ ?_ ?_ g4 hs' (hd'.trans hdf) (hsm.trans hs) hk hq
   ·omega
   ·simp[hls]
   ·intro j hj x hx
    by_cases hji:j=i
    ·subst hji
     obtain⟨oy,hoy,g,hg,hb,hgo⟩:=hx
     rw[ho]at hoy;cases hoy
     rw[<- hgo]
     exact getD_set_true (hall g hg hb)
    ·rw[getD_set_ne false (Ne.symm hji)]at hj
     exact getD_set_true (hcl j hj x hx)
   ·intro j
    rw[zSx]
    by_cases hji:j=i
    ·subst hji
     simp only[ne_eq,not_true,and_false,false_iff,not_and]
     intro _
     simp[hls,hilt]
    ·rw[getD_set_ne true (Ne.symm hji),<- hR j]
     simp[hji]
def opG (P:Program)(ops:Array Oper)(o:Oper)(rs:List Oper)(e:Env)(H:zAx)(k:Env->zAx->Prop):Prop:=match o.guard with
 | none=>opX P false o (ev e) H λv h=>Mre (zV3 P (e.put o.dst v) h rs) (k (e.put o.dst v) h)
 | some g=>match (ops[g.1]?).bind (·.dst) with
  | some t=>zLe o.dst.toList.length
    (λk'=>Mif (e t) g.2 (opX P false o (ev e) H λv h=>Mre (zV3 P (e.put o.dst v) h rs) (Cur.app _ k' (o.dst.toList.map (e.put o.dst v)) h))
     (Cur.app _ k' (o.dst.toList.map λ_=>undef) H))
    (Cur.of _ λvs h=>k (mg [] o.dst.toList e vs) h)
  | none=>False
def zAll (ops:Array Oper)(D:List Nat)(o:Oper)(rs:List Oper):Bool:=zAeJ D o&&rs.all (zAeK (addD o.dst D))&&(match o.guard with
 | none=>true
 | some g=>match (ops[g.1]?).bind (·.dst) with
  | some t=>has D t
  | none=>false)
theorem zVi {D:List Nat}{e e1:Env}{d:Option Nat}{v:Value}(h:zF7 D e e1):zF7 (addD d D) (mg [] d.toList e (d.toList.map (e.put d v))) (e1.put d v):=by
 intro i hi
 cases d with
 | none=>exact h i hi
 | some d =>
  show zAbS [d] [e.put (some d) v d] i (e i)=_
  simp only[zAbS]
  cases hb:Nat.beq i d with
  | true =>
   have:=zA3 hb
   subst this
   rw[zN5,zN5];rfl
  | false =>
   have hne:i≠d:=λe=>by subst e;rw[zB1]at hb;cases hb
   have hd:some d≠some i:=λh=>hne (zAN h).symm
   rw[zJK hd]
   exact h i ((zAs.1 hi).resolve_left hne)
theorem zAa1 {D:List Nat}{e e1:Env}{d:Option Nat}(h:zF7 D e e1):zF7 (addD d D) (mg [] d.toList e (d.toList.map λ_=>undef)) (e1.put d undef):=by
 have:=zVi (d:=d) (v:=undef) h
 have e2:(d.toList.map λ_=>undef)=d.toList.map (e.put d undef):=by
  cases d with
  | none=>rfl
  | some d=>show [undef]=[e.put (some d) undef d];rw[zN5]
 rw[e2];exact this
theorem zZQ {P:Program}{ops:Array Oper}{o:Oper}{rs:List Oper}{D:List Nat}{e e1:Env}{H:zAx}{k:Env->zAx->Prop}(hsel:∀ cs b,o.op ≠ .select cs b)(hc:zAll ops D o rs=true)(ha:zF7 D e e1)(h:opG P ops o rs e H k) :
  zHH P ops o e1 H (λe h=>∀ j∈rs,rc P j e h) λe1' h=>(∃ e',zF7 (addD o.dst D) e' e1'/\k e' h)/\∀ i,o.dst≠some i->e1' i=e1 i:=by
 simp only[zAll,zAk]at hc
 obtain⟨⟨hok,hre⟩,hg⟩:=hc
 have un:∀ v i,o.dst≠some i->e1.put o.dst v i=e1 i:=λv i h=>zJK h
 unfold opG at h
 cases hgd:o.guard with
 | none =>
  simp only[hgd]at h
  refine .inl ⟨by simp[act,hgd],?_⟩
  refine zN4 hsel (zN6 hok ha) (zGV h λv h' hh=>?_)
  obtain⟨hr,hh⟩:=zTX.1 hh
  exact⟨λj hj=>zV4 (zAw.1 hre j hj) ha.put (hr j hj),⟨_,ha.put,hh⟩,un v⟩
 | some g =>
  simp only[hgd]at h hg
  cases ht:(ops[g.1]?).bind (·.dst) with
  | none=>simp[ht]at hg
  | some t =>
   simp only[ht]at h hg
   have hsg:zRD g o=true:=by simp[zRD,hgd]
   have idle:e1 t ≠ .bool g.2->Cur.app o.dst.toList.length (Cur.of o.dst.toList.length λvs h=>k (mg [] o.dst.toList e vs) h) (o.dst.toList.map λ_=>undef) H ->
     zHH P ops o e1 H (λe h=>∀ j∈rs,rc P j e h) λe1' h=>(∃ e',zF7 (addD o.dst D) e' e1'/\k e' h)/\∀ i,o.dst≠some i->e1' i=e1 i:=λhne hk=>by
    refine .inr ⟨zXe ht hsg hne,?_⟩
    rw[Cur.app_of (by simp)]at hk
    exact⟨⟨_,zAa1 ha,hk⟩,un _⟩
   rcases h.out with ⟨b,heb,hyes,hno⟩|⟨hnb,hno⟩
   ·have het:e1 t = .bool b:=by rw[<- ha t (zDI.1 hg)];exact heb
    by_cases hb:b=g.2
    ·subst hb
     refine .inl ⟨by rw[zV5 ht hsg het];simp,?_⟩
     refine zN4 hsel (zN6 hok ha) (zGV (hyes rfl) λv h' hh=>?_)
     obtain⟨hr,hh⟩:=zTX.1 hh
     rw[Cur.app_of (by simp)]at hh
     exact⟨λj hj=>zV4 (zAw.1 hre j hj) ha.put (hr j hj),⟨_,zVi ha,hh⟩,un v⟩
    ·have hb':b = !g.2:=by cases b<;>cases hq:g.2<;>simp_all
     exact idle (by rw[het];intro he;cases he;exact hb rfl) (hno hb')
   ·exact idle (by rw[<- ha t (zDI.1 hg)];exact hnb _) hno
def zAjJ:Tr->Prop->Prop->Prop
 | .stop,p,_=>p
 | _,p,q=>p/\q
def zXo (P:Program)(ops:Array Oper):Tr->Env->zAx->(Env->zAx->Prop)->Prop
 | .done,e,H,K=>K e H
 | .stop,_,_,_=>True
 | .lt i t,e,H,K=>match ops[i]? with
  | none=>False
  | some o=>opG P ops o [] e H λe' h'=>zXo P ops t e' h' K
 | .hv i rs t more,e,H,K=>zAjJ more (match ops[i]? with
  | none=>False
  | some o=>opG P ops o (rs.filterMap (ops[·]?)) e H λe' h'=>zXo P ops t e' h' K) (zXo P ops more e H K)
def zAeP (ops:Array Oper)(L:List Nat):Tr->List Nat->Bool
 | .done,D=>L.all (has D)
 | .stop,_=>true
 | .lt i t,D=>match ops[i]? with
  | none=>false
  | some o=>zAll ops D o []&&zAeP ops L t (addD o.dst D)
 | .hv i rs t more,D=>(match ops[i]? with
  | none=>false
  | some o=>zAll ops D o (rs.filterMap (ops[·]?))&&zAeP ops L t (addD o.dst D))&&zAeP ops L more D
theorem zAco {t:Tr}{p q:Prop}(h:zAjJ t p q)(hs:t = .stop->q):p/\q:=by
 cases t<;>first|exact h|exact⟨h,hs rfl⟩
theorem zQf {P:Program}{ops:Array Oper}{L:List Nat}(hsel:∀ (x:Nat) (o:Oper),ops[x]? = some o->∀ cs b,o.op ≠ .select cs b){e0:Env}:∀ (t:Tr) (seen D:List Nat) (e e1:Env) (H:zAx) (K:Env->zAx->Prop),
  zAeP ops L t D=true->zF7 D e e1->(∀ i,i∉zIy ops.toList->e1 i=e0 i)->zXo P ops t e H K->zMd P ops seen t e1 H λe1' h=>(∃ e',K e' h/\zF7 L e' e1')/\∀ i,i∉zIy ops.toList->e1' i=e0 i
 | .done,seen,D,e,e1,H,K,hc,ha,hu,h=>⟨⟨e,h,λi hi=>ha i (zDI.1 (zAw.1 hc i hi))⟩,hu⟩
 | .stop,_,_,_,_,_,_,_,_,_,_=>trivial
 | .lt i t,seen,D,e,e1,H,K,hc,ha,hu,h=>by
  simp only[zAeP]at hc
  simp only[zXo]at h
  simp only[zMd]
  cases ho:ops[i]? with
  | none=>simp[ho]at h
  | some o =>
   simp only[ho,zAk]at hc h ⊢
   have hm:o∈ops.toList:=zBy.2 (Array.mem_of_getElem? ho)
   refine zHH.mono (zZQ (hsel i o ho) hc.1 ha h) (λ_ _ _ k hk=>(by cases hk)) ?_
   rintro e1' h' ⟨⟨e',ha',hk⟩,hun⟩
   exact zQf hsel t _ _ e' e1' h' K hc.2 ha' (λi hi=>(hun i λhd=>hi (zMc hd hm)).trans (hu i hi)) hk
 | .hv i rs t more,seen,D,e,e1,H,K,hc,ha,hu,h=>by
  simp only[zAeP,zAk]at hc
  simp only[zXo]at h
  simp only[zMd]
  have h:=zAco h (λe=>by subst e;trivial)
  refine⟨?_,zQf hsel more seen D e e1 H K hc.2 ha hu h.2⟩
  have h:=h.1
  have hc:=hc.1
  cases ho:ops[i]? with
  | none=>simp[ho]at h
  | some o =>
   simp only[ho,zAk]at hc h ⊢
   have hm:o∈ops.toList:=zBy.2 (Array.mem_of_getElem? ho)
   refine zHH.mono (zZQ (hsel i o ho) hc.1 ha h) (λ_ _ a k hk _ ok hok=>a ok (List.mem_filterMap.2 ⟨k,hk,hok⟩)) ?_
   rintro e1' h' ⟨⟨e',ha',hk⟩,hun⟩
   exact zQf hsel t _ _ e' e1' h' K hc.2 ha' (λi hi=>(hun i λhd=>hi (zMc hd hm)).trans (hu i hi)) hk
def zAjr (P:Program)(ops:Array Oper):Bool:=pwB (zAlk P ops (zAgy P ops)) (zAeM P ops)
def zV7 (P:Program)(ops:Array Oper):Tr:=zAck P ops ops.size [] (List.range ops.size)
def zAcp (P:Program)(V:List Nat)(ops:Array Oper)(e:Env)(H:zAx)(K:Env->zAx->Prop):Prop :=
 zLe (both V (zIy ops.toList) V).length (λk=>zXo P ops (zV7 P ops) e H λe' h=>Cur.app _ k ((both V (zIy ops.toList) V).map e') h)
  (Cur.of _ λvs h=>K (mg (zIy ops.toList) (both V (zIy ops.toList) V) e vs) h)
def zAeQ (P:Program)(V:List Nat)(n:Nat)(ops:Array Oper)(D:List Nat):Option (List Nat) :=
 bif P.follows .mixedOrders&&zAeL n ops&&wfT P ops (zV7 P ops) (List.range ops.size) [] true&&zAeP ops (both V (zIy ops.toList) V) (zV7 P ops) D then some (both V (zIy ops.toList) V++rm (zIy ops.toList) D) else none
def zV8 (P:Program)(V:List Nat)(ops:Array Oper)(draw:Bool)(e:Env)(H:zAx)(K:Env->zAx->Prop):Prop :=
 bif draw && !zAjr P ops then zAcp P V ops e H K else zAgx P V ops (ops.size+1) (zTa P ops draw) e H K
def zPA (P:Program)(V:List Nat)(n:Nat)(ops:Array Oper)(draw:Bool)(D:List Nat):Option (List Nat) :=
 bif draw && !zAjr P ops then zAeQ P V n ops D else bif (bif draw then zAcg P n ops (zAeM P ops) else ops.toList.all (zYs n)) then zRE V ops (ops.size+1) (zTa P ops draw) D else none
theorem zAcq {ro:Option Nat}{m:Nat}{P:Program}{V:List Nat}{n id:Nat}{ops:Array Oper}{draw:Bool}{D D':List Nat}(hc:zPA P V n ops draw D=some D'){e:Env}{a:Act}{w:World}{K:Env->zAx->Prop}{Q:Exit->Act->World->Prop}
  (ha:zF7 D e (zDX a)) (hsz:a.tmps.size=n) (h:zV8 P V ops draw e w.heap K)
  (hq:∀ a' w' e',zJI w w'->a'.tmps.size=n->a'.defers=a.defers->zF7 D' e' (zDX a')->(∀ i,i∉zIy ops.toList->zDX a' i=zDX a i)->K e' w'.heap->Q .normal a' w'):(Code.region id ops draw).wpIn (Fr ro) m P Q a w:=by
 unfold zPA at hc
 unfold zV8 at h
 cases hdl:draw && !zAjr P ops with
 | true =>
  rw[hdl]at hc h
  simp only[cond_true]at hc h
  obtain rfl:draw=true:=by cases draw<;>simp_all
  unfold zAeQ at hc
  cases hall:(P.follows .mixedOrders&&zAeL n ops&&wfT P ops (zV7 P ops) (List.range ops.size) [] true&&zAeP ops (both V (zIy ops.toList) V) (zV7 P ops) D) with
  | false=>rw[hall]at hc;cases hc
  | true =>
   rw[hall]at hc
   simp only[cond_true,zAn]at hc
   subst hc
   simp only[zAk]at hall
   obtain⟨⟨⟨hm,hok⟩,hw⟩,hct⟩:=hall
   have hokall:∀ (i:Nat) (o:Oper),ops[i]? = some o->zYs n o=true/\∀ g∈o.after,Region.binds .any g=true->g.on≠i/\g.on<ops.size:=by
    intro i o ho
    have hi:=(zBk.1 ho).1
    have:=zAw.1 hok i (by simpa using hi)
    simp only[ho,zAk,zAw,zB9,zBt]at this
    refine⟨this.1,λg hg hb=>?_⟩
    rcases this.2 g (zBy.2 hg) with h|⟨h1,h2⟩
    ·rw[hb]at h;cases h
    ·exact⟨λhe=>(by rw[he,zB1]at h1;cases h1),zDa h2⟩
   have hs:=zQf (e0:=zDX a) (λx o hx=>zRB (hokall x o hx).1) (zV7 P ops) [] D e (zDX a) w.heap _ hct ha (λ_ _=>rfl) h.out
   refine wpIn_region_any hm ?_
   refine zAa0 (n:=n) (w0:=w) (df:=a.defers) (λi o ho=>(hokall i o ho).1) (λi o ho g hg hb=>((hokall i o ho).2 g hg hb).2) ops.size (List.range ops.size) (zV7 P ops) (Array.replicate ops.size false) a { w with drawn:=w.drawn+1 } (by simp) (by simp) (λi hi=>by
     exfalso;revert hi;simp only[zBx,Array.getElem?_replicate];split<;>simp) ?_ hw hsz rfl ⟨rfl,rfl,rfl,zF5.rfl'⟩ hs ?_
   ·intro i
    constructor
    ·intro hi
     have hi:=zBC.1 hi
     exact⟨hi,by simp[hi]⟩
    ·rintro⟨hi,_⟩
     exact zBC.2 hi
   ·rintro a' w' hs hs' hd ⟨⟨e',hk,hag⟩,hun⟩
    rw[Cur.app_of (by simp)]at hk
    refine hq a' w' _ hs hs' hd ?_ hun hk
    exact zRC rfl ha hun (zBW λi hi=>hag i hi)
 | false =>
 rw[hdl]at hc h
 simp only[cond_false]at hc h
 clear hdl
 cases draw with
 | false =>
  simp only[cond_false]at hc
  cases hall:ops.toList.all (zYs n) with
  | false=>rw[hall]at hc;cases hc
  | true =>
   rw[hall]at hc
   have hok:∀ o∈ops.toList,zYs n o=true:=zAw.1 hall
   have hf:=zT0 (zSw (zRG _ _ _ _ e (zDX a) w.heap K (λx hx=>zRB (hok _ (zXn (by simpa [zTa] using hx)))) hc ha h))
   rw[show zEY (zKE ops.toList)=ops.toList from zXm]at hf
   refine wpIn_region ?_
   refine zVd (n:=n) (q:=false) (K:=λe1' h=>(∃ e',K e' h/\zF7 D' e' e1')/\∀ i,i∉zIy ops.toList->e1' i=zDX a i) (w0:=w) (df:=a.defers) (List.range ops.size) ops.toList (by simp) ?_ a w hsz rfl (zJI.rfl' w) hf ?_
   ·intro j i hj
    have hji:j<ops.size/\i=j:=by
     have:=zAV.1 hj
     obtain⟨h1,h2⟩:=this
     simp at h1 h2
     exact⟨h1,h2.symm⟩
    obtain⟨hlt,rfl⟩:=hji
    exact⟨ops[i],by simp[hlt],zBv hlt,hok _ (by simp)⟩
   ·rintro a' w' hs hs' hd ⟨⟨e',hk,hag⟩,hun⟩
    exact hq a' w' e' hs hs' hd hag hun hk
 | true =>
  simp only[cond_true]at hc
  cases hall:zAcg P n ops (zAeM P ops) with
  | false=>rw[hall]at hc;cases hc
  | true =>
   rw[hall]at hc
   simp only[zAcg,zAk]at hall
   obtain⟨⟨⟨⟨⟨hm,hok⟩,hnd⟩,hlt⟩,hcov⟩,hpw⟩:=hall
   have hokall:∀ (i:Nat) (o:Oper),ops[i]? = some o->zYs n o=true/\∀ g∈o.after,Region.binds .any g=true->g.on≠i/\g.on<ops.size:=by
    intro i o ho
    have hi:=(zBk.1 ho).1
    have:=zAw.1 hok i (by simpa using hi)
    simp only[ho,zAk,zAw,zB9,zBt]at this
    refine⟨this.1,λg hg hb=>?_⟩
    rcases this.2 g (zBy.2 hg) with h|⟨h1,h2⟩
    ·rw[hb]at h;cases h
    ·exact⟨λhe=>(by rw[he,zB1]at h1;cases h1),zDa h2⟩
   have hltl:∀ i∈zAeM P ops,i<ops.size:=λi hi=>zDa (zAw.1 hlt i hi)
   have hfst:(zAgy P ops).map (·.1)=zAeM P ops:=zXk
   have hf:=zSw (zRG _ _ _ _ e (zDX a) w.heap K (λx hx=>by
    simp only[zTa,cond_true]at hx
    obtain⟨i,hio⟩:=zTB hx
    exact zRB (hokall i _ hio).1) hc ha h)
   have hs:=zTZ (tab0:=zAgy P ops) (seen:=[]) (λi r hm=>⟨zXl (by rw[hfst];exact zTA hnd) hm,hltl i (by rw[<- hfst];exact zAo.2 ⟨_,hm,rfl⟩)⟩) hf
   rw[hfst]at hs
   refine wpIn_region_any hm ?_
   refine zAaZ (rsl:=lk (zAgy P ops)) (n:=n) (K:=λe1' h=>(∃ e',K e' h/\zF7 D' e' e1')/\∀ i,i∉zIy (zEY (zTa P ops true))->e1' i=zDX a i) (w0:=w) (df:=a.defers) (λi o ho=>(hokall i o ho).1) (λi o ho ⟨g,hg,hb,he⟩=>((hokall i o ho).2 g hg hb).1 he)
    (λi o ho g hg hb=>((hokall i o ho).2 g hg hb).2) ?_ ?_ ops.size (zAeM P ops) (Array.replicate ops.size false) a { w with drawn:=w.drawn+1 } ?_ (by simp) (λi hi=>by
     exfalso;revert hi;simp only[zBx,Array.getElem?_replicate];split<;>simp) ?_ ?_ (zTA hnd) hsz rfl ⟨rfl,rfl,rfl,zF5.rfl'⟩ hs ?_
   ·intro x o hx hcl
    cases hl:lk (zAgy P ops) x with
    | nil=>rfl
    | cons k r =>
     exfalso
     obtain⟨r',hr',hk⟩:=zAgz (tab:=zAgy P ops) (i:=x) (k:=k) (by rw[hl];simp)
     obtain⟨b,rfl⟩:=zTY hr'
     simp only[zAcf,hx,zAhW.2 hcl,cond_true]at hk
     simp at hk
   ·intro x k ok hk hok'
    obtain⟨r',hr',hk⟩:=zAgz hk
    obtain⟨b,rfl⟩:=zTY hr'
    unfold zAcf at hk
    split at hk
    ·rename_i o hx
     cases hb:Nat.ble (cls P o.op) 1 with
     | true=>rw[hb]at hk;simp at hk
     | false =>
      rw[hb]at hk
      have:=(zBd.1 hk).2
      simp only[hok',zAk]at this
      exact zA3 this.1
    ·simp at hk
   ·have:=List.Nodup.length_le_of_subset (zTA hnd) (l₂:=List.range ops.size) (λi hi=>by simpa using hltl i hi)
    simpa using this
   ·intro i
    constructor
    ·intro hi;exact⟨hltl i hi,by simp[hltl i hi]⟩
    ·rintro⟨hi,_⟩
     exact zDI.1 (zAw.1 hcov i (by simpa using hi))
   ·exact(zZO hpw).imp λ{x y} hxy=>zAcj hxy
   ·rintro a' w' hs hs' hd ⟨⟨e',hk,hag⟩,hun⟩
    refine hq a' w' e' hs hs' hd hag (λi hi=>hun i λhm=>hi (zAeN (λo ho=>?_) hm)) hk
    obtain⟨x,hx,rfl⟩:=zVg ho
    simp only[zTa,cond_true]at hx
    obtain⟨j,hjo⟩:=zTB hx
    exact zBy.2 (Array.mem_of_getElem? hjo)
def zAlG (ops:Array Oper):List Nat:=zIy ops.toList
def asg:Code->List Nat
 | .region _ ops _=>zAlG ops
 | .seq a b=>asg a++asg b
 | .cond _ a b=>asg a++asg b
 | .block _ a=>asg a
 | .loop a=>asg a
 | .scope a=>asg a
 | _=>[]
def zOv (id:Nat):Code->Nat
 | .exit j=>bif Nat.beq j id then 1 else 0
 | .seq a b=>zOv id a+zOv id b
 | .cond _ a b=>zOv id a+zOv id b
 | .block _ a=>zOv id a
 | .loop a=>zOv id a
 | .scope a=>zOv id a
 | .rangeFunc _ _ _ a=>zOv id a
 | _=>0
def zQ3:Code->Bool
 | .seq a b=>zQ3 a || zQ3 b
 | .cond _ a b=>zQ3 a || zQ3 b
 | .block _ a=>zQ3 a
 | .loop _=>true
 | .scope a=>zQ3 a
 | _=>false
def ways:Code->Nat
 | .skip=>1
 | .label _=>1
 | .region _ _ _=>1
 | .seq a b=>bif Nat.beq (ways a) 0 then 0 else ways b
 | .cond _ a b=>ways a+ways b
 | .block id a=>ways a+zOv id a
 | .scope a=>ways a
 | .rangeFunc _ _ _ _=>1
 | _=>0
def zUX:Code->Bool
 | .seq a b=>zUX a || zUX b
 | .cond _ a b=>zUX a || zUX b
 | .block _ a=>zUX a
 | .loop a=>zUX a
 | .scope a=>zUX a
 | .rangeFunc _ _ _ _=>true
 | _=>false
def zNq:Code->Bool
 | .seq a b=>zNq a || zNq b
 | .cond _ a b=>zNq a || zNq b
 | .block _ a=>zNq a
 | .loop a=>zNq a
 | .scope a=>zNq a
 | .rangeFunc _ _ _ a=>zNq a
 | .ret=>true
 | _=>false
def zAa2 (a:Code):Bool:=Nat.ble 2 (ways a) || zQ3 a
def zAeR:List (List Nat)->List Nat->List Nat
 | [],D=>D
 | d::l,D=>zAeR l (D.filter (has d))
def exD (id:Nat):List (Nat×List Nat)->List (List Nat)
 | []=>[]
 | (j,d)::l=>bif Nat.beq j id then d::exD id l else exD id l
def zAjs (id:Nat):List (Nat×List Nat)->List (Nat×List Nat)
 | []=>[]
 | (j,d)::l=>bif Nat.beq j id then zAjs id l else (j,d)::zAjs id l
def zT2:List (List Nat)->Option (List Nat)
 | []=>none
 | d::l=>some (zAeR l d)
def zAcr (L D:List Nat):Bool:=L.all (has D)
structure Inf where
 nrm:Option (List Nat)
 exs:List (Nat×List Nat)
def chk (P:Program)(V R:List Nat)(n:Nat):Code->List Nat->Option Inf
 | .rangeFunc g ps as b,D=>bif zYA D g&&ps.toList.all (λp=>Nat.ble (p+1) n)&&(!zNq b || zAcr R D) then (match chk P V R n as (ps.toList++D) with
  | some ⟨some Da,_⟩=>(match chk P V R n b Da with
   | some ⟨_,E⟩=>some ⟨some D,E.map λp=>(p.1,D)⟩
   | none=>none)
  | _=>none) else none
 | .skip,D=>some ⟨some D,[]⟩
 | .label _,D=>some ⟨some D,[]⟩
 | .scope a,D=>chk P V R n a D
 | .region _ ops draw,D=>(zPA P V n ops draw D).map λD'=>⟨some D',[]⟩
 | .seq a b,D=>match chk P V R n a D with
  | some ⟨some Da,E⟩=>match chk P V R n b (bif zAa2 a then both V (asg a) Da++rm (asg a) D else Da) with
   | some ⟨nb,E2⟩=>some ⟨nb,E++E2⟩
   | none=>none
  | some ⟨none,E⟩=>some ⟨none,E⟩
  | none=>none
 | .cond c a b,D=>bif zYA D c then (match chk P V R n a D,chk P V R n b D with
  | some ⟨na,Ea⟩,some ⟨nb,Eb⟩=>some ⟨zT2 (na.toList++nb.toList),Ea++Eb⟩
  | _,_=>none) else none
 | .block id a,D=>match chk P V R n a D with
  | some ⟨na,E⟩=>some ⟨zT2 (na.toList++exD id E),zAjs id E⟩
  | none=>none
 | .loop a,D=>match chk P V R n a (both V (asg a) D++rm (asg a) D) with
  | some ⟨na,E⟩=>bif (match na with|some d=>zAcr (both V (asg a) D) d|none=>true) then some ⟨none,E⟩ else none
  | none=>none
 | .exit id,D=>some ⟨none,[(id,D)]⟩
 | .ret,D=>bif zAcr R D then some ⟨none,[]⟩ else none
 | _,_=>some ⟨none,[]⟩
def zSy (P:Program)(V R:List Nat)(n:Nat)(a:Code)(D:List Nat):List Nat:=match chk P V R n a D with
 | some ⟨some d,_⟩=>d
 | _=>[]
def zXp (K:Env->zAx->Prop)(Q:Exit->Env->zAx->Prop):Exit->Env->zAx->Prop
 | .normal,e,h=>K e h
 | .exit id,e,h=>Q (.exit id) e h
 | .goto l,e,h=>Q (.goto l) e h
 | .ret,e,h=>Q .ret e h
 | .panic c,e,h=>Q (.panic c) e h
 | .outgrown,e,h=>Q .outgrown e h
def zZR (id:Nat)(Q:Exit->Env->zAx->Prop):Exit->Env->zAx->Prop
 | .normal,e,h=>Q .normal e h
 | .exit j,e,h=>bif Nat.beq j id then Q .normal e h else Q (.exit j) e h
 | .goto l,e,h=>Q (.goto l) e h
 | .ret,e,h=>Q .ret e h
 | .panic c,e,h=>Q (.panic c) e h
 | .outgrown,e,h=>Q .outgrown e h
def zAgA (k:Option Code->zAx->Prop):Exit->Env->zAx->Prop
 | .normal,_,h=>k none h
 | .ret,_,h=>k (some .ret) h
 | .exit id,_,h=>k (some (.exit id)) h
 | _,_,_=>False
def zYE (b:Bool)(Q:Exit->Env->zAx->Prop)(e:Env):List Nat->Option Code->zAx->Prop
 | [],j,h=>(j=none/\Q .normal e h)\/(bif b then j=some .ret/\Q .ret e h else False)
 | id::l,j,h=>(j=some (.exit id)/\Q (.exit id) e h)\/zYE b Q e l j h
def zYF:List Nat->Nat->List Value->Env->Env
 | [],_,_,e=>e
 | p::ps,i,args,e=>zYF ps (i+1) args (e.put (some p) (args.getD i undef))
def zAcs (P:Program)(fv:Value)(args:List Value)(H:zAx)(k:zAm):Prop :=
 ∃ f fi ca,fv = .func (.func f) fi ca/\zPt P f=true/\zAA P f (fi.toList++args++ca.toList) H k
def zAjt (l:Nat)(h:zAx)(k:zAx->Prop):Prop:=∃ r:Loop,h[l]? = some (.loop r)/\r.state = .ready/\k (h.setIfInBounds l (.loop { r with state := .busy }))
def zAmF (K:Env->zAx->Prop):Exit->Env->zAx->Prop
 | .normal,e,h=>K e h
 | _,_,_=>False
def zTc (P:Program)(n0:Nat)(fv:Value)(H:zAx)(B:List Value->zAx->(Option Code->zAx->Prop)->Prop)(rest:Option Code->zAx->Prop):Prop :=
 n0<=H.size/\∀ rec:Loop,rec.state = .ready->rec.pending=none ->
  (∀ args h k,h[H.size+1]? = some (.loop rec) ->
   B args h (λj h'=>∃ r',h'[H.size+1]? = some (.loop r')/\k (.bool j.isNone) (h'.setIfInBounds (H.size+1) (.loop { r' with state:=if j.isNone then .ready else .done,pending:=j }))) ->
   zTQ P (H.size+1) args h k) ->
  zAcs P fv [.func (.yield (H.size+1)) #[] #[]] ((H.push (.deferred (some []))).push (.loop rec)) λ_ h =>
   ∃ r',h[H.size+1]? = some (.loop r')/\r'.state ≠ .busy/\rest r'.pending (h.setIfInBounds (H.size+1) (.loop { r' with state := .exhausted }))
def zAct (i:Option Inf):List Nat:=match i with
 | some ⟨_,E⟩=>uni (E.map (·.1)) []
 | none=>[]
def den (P:Program)(V R:List Nat)(n n0:Nat):Bool->Code->List Nat->Env->zAx->(Exit->Env->zAx->Prop)->Prop
 | M,.rangeFunc g ps as b,D,e,H,Q=>bif M then
   zTc P n0 (ev e g) H (λargs h k=>args.length=ps.size/\den P V R n n0 false as (ps.toList++D) (zYF ps.toList 0 args e) h
     (zAmF λe' h'=>zAjt (H.size+1) h' λh''=>den P V R n n0 false b (zSy P V R n as (ps.toList++D)) e' h'' (zAgA k)))
    (zYE (zNq b) Q e (zAct (chk P V R n b (zSy P V R n as (ps.toList++D)))))
  else False
 | _,.skip,_,e,H,Q=>Q .normal e H
 | _,.label _,_,e,H,Q=>Q .normal e H
 | M,.scope a,D,e,H,Q=>den P V R n n0 M a D e H Q
 | _,.region _ ops draw,_,e,H,Q=>zV8 P V ops draw e H λe h=>Q .normal e h
 | M,.seq a b,D,e,H,Q=>bif zAa2 a then
   zLe (both V (asg a) (zSy P V R n a D)).length
    (λk=>den P V R n n0 M a D e H (zXp (λe' h'=>Cur.app _ k ((both V (asg a) (zSy P V R n a D)).map e') h') Q))
    (Cur.of _ λvs h'=>den P V R n n0 M b (both V (asg a) (zSy P V R n a D)++rm (asg a) D) (mg (asg a) (both V (asg a) (zSy P V R n a D)) e vs) h' Q)
  else den P V R n n0 M a D e H (zXp (λe' h'=>den P V R n n0 M b (zSy P V R n a D) e' h' Q) Q)
 | M,.cond c a b,D,e,H,Q=>Mcd (ev e c) (den P V R n n0 M a D e H Q) (den P V R n n0 M b D e H Q)
 | M,.block id a,D,e,H,Q=>den P V R n n0 M a D e H (zZR id Q)
 | M,.loop a,D,e,H,Q=>zV2 (both V (asg a) D).length
   (λnext=>Cur.of _ λvs h'=>den P V R n n0 M a (both V (asg a) D++rm (asg a) D) (mg (asg a) (both V (asg a) D) e vs) h'
    (zXp (λe'' h''=>Cur.app _ next ((both V (asg a) D).map e'') h'') Q)) ((both V (asg a) D).map e) H
 | _,.exit id,_,e,H,Q=>Q (.exit id) e H
 | _,.ret,_,e,H,Q=>Q .ret e H
 | _,_,_,_,_,_=>False
def Out (R:List Nat)(I:Inf)(A:List Nat)(a0 a:Act)(e:Env):Exit->Prop
 | .normal=>(∃ d,I.nrm=some d/\zF7 d e (zDX a))/\∀ i,i∉A->zDX a i=zDX a0 i
 | .exit id=>(∃ d,(id,d)∈I.exs/\zF7 d e (zDX a))/\∀ i,i∉A->zDX a i=zDX a0 i
 | .ret=>zF7 R e (zDX a)
 | _=>False
def Mks (M:Bool)(n0:Nat)(df:List Deferred)(H:zAx):Prop :=
 (M=false->df=[])/\df.Pairwise (λx y=>x.target≠y.target)/\∀ d∈df,∃ r,d.target = .collected r/\n0<=r/\H[r]? = some (.deferred (some []))
theorem Mks.solid {M:Bool}{n0:Nat}{df:List Deferred}{H H':zAx}(h:Mks M n0 df H)(s:zF5 H H'):Mks M n0 df H' :=
 ⟨h.1,h.2.1,λd hd=>let ⟨r,h1,h2,h3⟩:=h.2.2 d hd; ⟨r,h1,h2,s _ _ h3⟩⟩
theorem Mks.nil {M:Bool}{n0:Nat}{H:zAx}:Mks M n0 [] H:=⟨λ_=>rfl,.nil,λd hd=>(by cases hd)⟩
def zAlH (M:Bool)(n0 n:Nat)(R:List Nat)(I:Inf)(A:List Nat)(a0:Act)(w0:World)(Q:Exit->Env->zAx->Prop):Exit->Act->World->Prop:=λex a w =>
 ∃ e,Q ex e w.heap/\zJI w0 w/\a.tmps.size=n/\Mks M n0 a.defers w.heap/\Out R I A a0 a e ex
theorem zMB:∀ {l:List (List Nat)} {D d:List Nat} {e e1:Env},d∈l\/d=D->zF7 d e e1->zF7 (zAeR l D) e e1
 | [],D,d,e,e1,h,ha=>by
  rcases h with h|rfl
  ·simp at h
  ·exact ha
 | x::l,D,d,e,e1,h,ha=>by
  simp only[zAeR]
  rcases h with h|rfl
  ·rcases zAs.1 h with rfl|h
   ·refine zMB (.inr rfl) λi hi=>ha i ?_
    exact zDI.1 (zBd.1 hi).2
   ·exact zMB (.inl h) ha
  ·exact zMB (.inr rfl) λi hi=>ha i (zBd.1 hi).1
theorem zQg {l:List (List Nat)}{d:List Nat}{e e1:Env}(h:d∈l)(ha:zF7 d e e1):∃ m,zT2 l=some m/\zF7 m e e1:=by
 cases l with
 | nil=>simp at h
 | cons x l =>
  refine⟨_,rfl,?_⟩
  rcases zAs.1 h with rfl|h
  ·exact zMB (.inr rfl) ha
  ·exact zMB (.inl h) ha
theorem zAcu {id:Nat}{d:List Nat}:∀ {E:List (Nat×List Nat)},(id,d)∈E->d∈exD id E
 | (j,d')::l,h=>by
  simp only[exD]
  rcases zAs.1 h with h|h
  ·cases h;rw[zB1];simp
  ·have:=zAcu h
   cases Nat.beq j id
   ·exact this
   ·exact zCY _ this
theorem zZS {id j:Nat}{d:List Nat}(hne:Nat.beq j id=false):∀ {E:List (Nat×List Nat)},(j,d)∈E->(j,d)∈zAjs id E
 | (j',d')::l,h=>by
  simp only[zAjs]
  rcases zAs.1 h with h|h
  ·cases h;rw[hne];simp
  ·have:=zZS hne h
   cases Nat.beq j' id
   ·exact zCY _ this
   ·exact this
theorem zQh {M:Bool}{n0 n:Nat}{R:List Nat}{Ia I:Inf}{A B:List Nat}{a0:Act}{w0:World}{K:Env->zAx->Prop}{Q:Exit->Env->zAx->Prop}{next:Act->World->Prop}
  (hnext:∀ a w e,K e w.heap->zJI w0 w->a.tmps.size=n->Mks M n0 a.defers w.heap->Out R Ia A a0 a e .normal->next a w) (hsub:∀ i,i∉B->i∉A) (hex:∀ p,p∈Ia.exs->p∈I.exs) :
  ∀ ex a w,zAlH M n0 n R Ia A a0 w0 (zXp K Q) ex a w->Exit.then next (zAlH M n0 n R I B a0 w0 Q) ex a w:=by
 rintro ex a w ⟨e,hq,hs,hz,hd,ho⟩
 cases ex with
 | normal=>exact hnext a w e hq hs hz hd ho
 | exit id=>exact⟨e,hq,hs,hz,hd,⟨ho.1.imp λd h=>⟨hex _ h.1,h.2⟩,λi hi=>ho.2 i (hsub i hi)⟩⟩
 | ret=>exact⟨e,hq,hs,hz,hd,ho⟩
 | goto l=>exact ho.elim
 | panic c=>exact ho.elim
 | outgrown=>exact ho.elim
theorem zF5.setL {H:zAx}{b:Nat}{r r':Loop}(hb:H[b]? = some (.loop r)):zF5 H (H.setIfInBounds b (.loop r')):=λi ds h=>by
 rw[zAE]
 split
 ·rename_i e;subst e;rw[hb]at h;cases h
 ·exact h
theorem zAcv {nr:Option (List Nat)}{E:List (Nat×List Nat)}{id:Nat}(h:id∈zAct (some ⟨nr,E⟩)):∃ d,(id,d)∈E:=by
 simp only[zAct]at h
 rcases zAch h with h|h
 ·obtain⟨⟨i,d⟩,hm,rfl⟩:=zAo.1 h;exact⟨d,hm⟩
 ·cases h
theorem zXq {b:Bool}{Q:Exit->Env->zAx->Prop}{e:Env}{j:Option Code}{h:zAx}:∀ {l:List Nat},zYE b Q e l j h ->
  (j=none/\Q .normal e h)\/(j=some .ret/\b=true/\Q .ret e h)\/∃ id,j=some (.exit id)/\id∈l/\Q (.exit id) e h
 | [],hq=>by
  simp only[zYE]at hq
  rcases hq with hq|hq
  ·exact .inl hq
  ·cases b with
   | false=>exact hq.elim
   | true=>exact .inr (.inl ⟨hq.1,rfl,hq.2⟩)
 | id::l,hq=>by
  simp only[zYE]at hq
  rcases hq with ⟨h1,h2⟩|hq
  ·exact .inr (.inr ⟨id,h1,by simp,h2⟩)
  ·rcases zXq hq with h|h|⟨i,h1,h2,h3⟩
   ·exact .inl h
   ·exact .inr (.inl h)
   ·exact .inr (.inr ⟨i,h1,by simp[h2],h3⟩)
theorem zVj:∀ {l:List (Nat×Value)} {t:Array Value},(l.foldl (λt (p,v)=>t.setIfInBounds p v) t).size=t.size
 | [],t=>rfl
 | (p,v)::l,t=>by rw[List.foldl_cons,zVj (l:=l)];simp
theorem zYG {ps:Array Nat}{args:Array Value}{t:Array Value}:((ps.zip args).foldl (λt (p,v)=>t.setIfInBounds p v) t).size=t.size:=by
 rw[<- Array.foldl_toList];exact zVj
theorem zPB {n:Nat}:∀ {ps:List Nat} {i:Nat} {args:List Value} {t:Array Value} {D:List Nat} {e:Env},t.size=n->(∀ p∈ps,p<n)->i+ps.length=args.length ->
  zF7 D e (λi=>t.getD i undef)->zF7 (ps++D) (zYF ps i args e) (λk=>((ps.zip (args.drop i)).foldl (λt (p,v)=>t.setIfInBounds p v) t).getD k undef)
 | [],i,args,t,D,e,_,_,_,ha=>by simpa [zYF] using ha
 | p::ps,i,args,t,D,e,ht,hp,hl,ha=>by
  have hlt:i<args.length:=by simp at hl;omega
  rw[zBU hlt,List.zip_cons_cons,List.foldl_cons]
  have hpn:=hp p (by simp)
  have:=zPB (n:=n) (ps:=ps) (i:=i+1) (args:=args) (t:=t.setIfInBounds p args[i]) (D:=p::D) (e:=e.put (some p) (args.getD i undef)) (by simpa using ht) (λq hq=>hp q (by simp[hq])) (by simp at hl;omega) ?_
  ·intro k hk
   refine this k ?_
   simp only[zCA,zAs,zAp]at hk ⊢
   rcases hk with h|h|h<;>simp[h]
  ·intro k hk
   by_cases hkp:k=p
   ·subst hkp
    rw[zN5]
    simp[ht,hpn,hlt]
   ·rw[zJK (by simpa using λh=>hkp h.symm)]
    rcases zAs.1 hk with h|h
    ·exact absurd h hkp
    ·rw[ha k h]
     simp[Array.getElem?_setIfInBounds_ne (Ne.symm hkp)]
theorem zYH {n:Nat}{ps:Array Nat}{args:List Value}{a:Act}{D:List Nat}{e:Env}(hz:a.tmps.size=n)(hp:ps.toList.all (λp=>Nat.ble (p+1) n)=true)(hl:args.length=ps.size)(ha:zF7 D e (zDX a)) :
  zF7 (ps.toList++D) (zYF ps.toList 0 args e) (zDX { tmps:=(ps.zip args.toArray).foldl (λt (p,v)=>t.setIfInBounds p v) a.tmps,defers:=[] }):=by
 have:=zPB (n:=n) (ps:=ps.toList) (i:=0) (args:=args) (t:=a.tmps) (D:=D) (e:=e) hz (λp hm=>zDa (zAw.1 hp p hm)) (by simpa using hl.symm) ha
 rw[zB4]at this
 unfold zDX
 rw[<- Array.foldl_toList]
 simpa using this
section
variable {F:Fence} {n:Nat} {P:Program} {Q:Exit->Act->World->Prop} {a:Act} {w:World} {b:Frame} {k:List Go.Item} {cs:List Frame}
theorem zKG {c:Code}:step P (lone (b.atR a (.code (.scope c)::k)) cs w) = .next (lone (b.atR a (.code c :: .inScope c::k)) cs w) :=
 step_lone_go (by simp[stepG,stepG.exec,Frame.atR])
theorem zV9 {c:Code}:step P (lone (b.atR a (.inScope c::k)) cs w) = .next (lone (b.atR a k) cs w) :=
 step_lone_go (by simp[stepG,stepG.exec,Frame.atR])
theorem zAa3 {c:Code}(h:c.wpIn F n P Q a w)(hg:∀ l a w,¬ Q (.goto l) a w):(Code.scope c).wpIn F n P Q a w:=by
 intro b k cs hro hb hr
 have h0:(lone (b.atR a (.code (.scope c)::k)) cs w).fenced P F:=fenced_calm hb hr rfl
 obtain⟨e,a₁,w₁,hq,harr⟩:=h b (.inScope c::k) cs hro hb hr
 cases e with
 | normal=>exact⟨.normal,a₁,w₁,hq,.head h0 zKG (StepsIn.trans harr (.one (fenced_calm hb hr rfl) zV9))⟩
 | exit id =>
  have hx:exitTo id (.inScope c::k)=exitTo id k:=by simp[exitTo]
  exact⟨_,a₁,w₁,hq,λk' hk => .head h0 zKG (harr.1 k' (by rw[hx];exact hk)),
   λhr' hk=>let ⟨k₁,h1,h2⟩:=harr.2 hr' (by rw[hx];exact hk); ⟨k₁,h1,.head h0 zKG h2⟩⟩
 | goto l=>exact absurd hq (hg _ _ _)
 | ret=>exact⟨_,a₁,w₁,hq,.of_steps (.one h0 zKG) harr⟩
 | panic ch=>exact⟨_,a₁,w₁,hq,.of_steps (.one h0 zKG) harr⟩
 | outgrown=>exact⟨_,a₁,w₁,hq,.of_steps (.one h0 zKG) harr⟩
end
theorem zMC {m:Nat}{P:Program}{V R:List Nat}{n n0:Nat}:∀ {ro:Option Nat} {M:Bool} (hM:M=true->ro=none) (c:Code) (D:List Nat) (I:Inf) (e:Env) (a:Act) (w:World) (Q:Exit->Env->zAx->Prop),chk P V R n c D=some I->zF7 D e (zDX a)->a.tmps.size=n->Mks M n0 a.defers w.heap ->
  den P V R n n0 M c D e w.heap Q->c.wpIn (Fr ro) m P (zAlH M n0 n R I (asg c) a w Q) a w
 | _,_,hM,.skip,D,I,e,a,w,Q,hc,ha,hz,hd,h=>by
  simp only[chk,zAn]at hc
  subst hc
  exact wpIn_skip ⟨e,h,zJI.rfl' w,hz,hd,⟨D,rfl,ha⟩,λ_ _=>rfl⟩
 | _,_,hM,.region id ops draw,D,I,e,a,w,Q,hc,ha,hz,hd,h=>by
  simp only[chk]at hc
  cases hr:zPA P V n ops draw D with
  | none=>simp[hr]at hc
  | some D' =>
   simp only[hr,zAT,zAn]at hc
   subst hc
   exact zAcq hr ha hz h λa' w' e' hs hz' hd' hag hun hk=>⟨e',hk,hs,hz',hd' ▸ hd.solid hs.solid,⟨D',rfl,hag⟩,hun⟩
 | _,_,hM,.seq x y,D,I,e,a,w,Q,hc,ha,hz,hd,h=>by
  simp only[chk]at hc
  cases hx:chk P V R n x D with
  | none=>simp[hx]at hc
  | some Ix =>
   obtain⟨nx,Ex⟩:=Ix
   simp only[hx]at hc
   simp only[den]at h
   cases nx with
   | none =>
    simp only[zAn]at hc
    subst hc
    refine wpIn_seq ?_
    cases hj:zAa2 x with
    | true =>
     rw[hj]at h
     refine wpIn_mono (zMC hM x D _ e a w _ hx ha hz hd (zLe.out h)) (zQh (λa' w' e' _ _ _ _ ho=>?_) (λi hi hm=>hi (by simp[asg,hm])) (λp hp=>hp))
     obtain⟨⟨d,hd',_⟩,_⟩:=ho
     cases hd'
    | false =>
     rw[hj]at h
     refine wpIn_mono (zMC hM x D _ e a w _ hx ha hz hd h) (zQh (λa' w' e' _ _ _ _ ho=>?_) (λi hi hm=>hi (by simp[asg,hm])) (λp hp=>hp))
     obtain⟨⟨d,hd',_⟩,_⟩:=ho
     cases hd'
   | some Da =>
    have hn:zSy P V R n x D=Da:=by simp[zSy,hx]
    rw[hn]at h
    cases hj:zAa2 x with
    | true =>
     rw[hj]at h hc
     simp only[cond_true]at h hc
     cases hy:chk P V R n y (both V (asg x) Da++rm (asg x) D) with
     | none=>simp[hy]at hc
     | some Iy =>
      obtain⟨ny,Ey⟩:=Iy
      simp only[hy,zAn]at hc
      subst hc
      refine wpIn_seq (wpIn_mono (zMC hM x D _ e a w _ hx ha hz hd h.out) (zQh (λa' w' e' hk hs hz' hd' ho=>?_) (λi hi hm=>hi (by simp[asg,hm])) (λp hp=>by simp[hp])))
      obtain⟨⟨d,hde,hag⟩,hun⟩:=ho
      cases hde
      rw[Cur.app_of (by simp)]at hk
      have hag2:zF7 (both V (asg x) Da++rm (asg x) D) (mg (asg x) (both V (asg x) Da) e ((both V (asg x) Da).map e')) (zDX a'):=by
       refine zRC rfl ha hun (zBW λi hi=>?_)
       have:=(zBd.1 hi).2
       simp only[zAk]at this
       exact hag i (zDI.1 this.2)
      refine wpIn_mono (zMC hM y _ _ _ a' w' Q hy hag2 hz' hd' hk) ?_
      rintro ex a2 w2 ⟨e2,hq,hs2,hz2,hd2,ho2⟩
      refine⟨e2,hq,hs.trans hs2,hz2,hd2,?_⟩
      cases ex with
      | normal=>exact⟨ho2.1,λi hi=>(ho2.2 i (λhm=>hi (by simp[asg,hm]))).trans (hun i (λhm=>hi (by simp[asg,hm])))⟩
      | exit id=>exact⟨ho2.1.imp λd h=>⟨by simp[h.1],h.2⟩,λi hi=>(ho2.2 i (λhm=>hi (by simp[asg,hm]))).trans (hun i (λhm=>hi (by simp[asg,hm])))⟩
      | ret=>exact ho2
      | goto l=>exact ho2.elim
      | panic c=>exact ho2.elim
      | outgrown=>exact ho2.elim
    | false =>
     rw[hj]at h hc
     simp only[cond_false]at h hc
     cases hy:chk P V R n y Da with
     | none=>simp[hy]at hc
     | some Iy =>
      obtain⟨ny,Ey⟩:=Iy
      simp only[hy,zAn]at hc
      subst hc
      refine wpIn_seq (wpIn_mono (zMC hM x D _ e a w _ hx ha hz hd h) (zQh (λa' w' e' hk hs hz' hd' ho=>?_) (λi hi hm=>hi (by simp[asg,hm])) (λp hp=>by simp[hp])))
      obtain⟨⟨d,hde,hag⟩,hun⟩:=ho
      cases hde
      refine wpIn_mono (zMC hM y _ _ _ a' w' Q hy hag hz' hd' hk) ?_
      rintro ex a2 w2 ⟨e2,hq,hs2,hz2,hd2,ho2⟩
      refine⟨e2,hq,hs.trans hs2,hz2,hd2,?_⟩
      cases ex with
      | normal=>exact⟨ho2.1,λi hi=>(ho2.2 i (λhm=>hi (by simp[asg,hm]))).trans (hun i (λhm=>hi (by simp[asg,hm])))⟩
      | exit id=>exact⟨ho2.1.imp λd h=>⟨by simp[h.1],h.2⟩,λi hi=>(ho2.2 i (λhm=>hi (by simp[asg,hm]))).trans (hun i (λhm=>hi (by simp[asg,hm])))⟩
      | ret=>exact ho2
      | goto l=>exact ho2.elim
      | panic c=>exact ho2.elim
      | outgrown=>exact ho2.elim
 | _,_,hM,.cond c x y,D,I,e,a,w,Q,hc,ha,hz,hd,h=>by
  simp only[chk]at hc
  cases ho:zYA D c with
  | false=>rw[ho]at hc;cases hc
  | true =>
   rw[ho]at hc
   simp only[cond_true]at hc
   cases hx:chk P V R n x D with
   | none=>simp[hx]at hc
   | some Ix =>
    cases hy:chk P V R n y D with
    | none=>simp[hx,hy]at hc
    | some Iy =>
     obtain⟨nx,Ex⟩:=Ix
     obtain⟨ny,Ey⟩:=Iy
     simp only[hx,hy,zAn]at hc
     subst hc
     obtain⟨b,hb,h1,h2⟩:=h
     have hev:a.eval c = .bool b:=by
      rw[zMu,<- hb]
      cases c<;>first|rfl|exact(ha _ (zDI.1 ho)).symm
     cases b with
     | true =>
      refine wpIn_cond_true hev (wpIn_mono (zMC hM x D _ e a w Q hx ha hz hd (h1 rfl)) ?_)
      rintro ex a2 w2 ⟨e2,hq,hs2,hz2,hd2,ho2⟩
      refine⟨e2,hq,hs2,hz2,hd2,?_⟩
      cases ex with
      | normal =>
       obtain⟨⟨d,hd,hag⟩,hun⟩:=ho2
       exact⟨zQg (by simp at hd;simp[hd]) hag,λi hi=>hun i (λhm=>hi (by simp[asg,hm]))⟩
      | exit id=>exact⟨ho2.1.imp λd h=>⟨by simp[h.1],h.2⟩,λi hi=>ho2.2 i (λhm=>hi (by simp[asg,hm]))⟩
      | ret=>exact ho2
      | goto l=>exact ho2.elim
      | panic c=>exact ho2.elim
      | outgrown=>exact ho2.elim
     | false =>
      refine wpIn_cond_false hev (wpIn_mono (zMC hM y D _ e a w Q hy ha hz hd (h2 rfl)) ?_)
      rintro ex a2 w2 ⟨e2,hq,hs2,hz2,hd2,ho2⟩
      refine⟨e2,hq,hs2,hz2,hd2,?_⟩
      cases ex with
      | normal =>
       obtain⟨⟨d,hd,hag⟩,hun⟩:=ho2
       exact⟨zQg (by simp at hd;simp[hd]) hag,λi hi=>hun i (λhm=>hi (by simp[asg,hm]))⟩
      | exit id=>exact⟨ho2.1.imp λd h=>⟨by simp[h.1],h.2⟩,λi hi=>ho2.2 i (λhm=>hi (by simp[asg,hm]))⟩
      | ret=>exact ho2
      | goto l=>exact ho2.elim
      | panic c=>exact ho2.elim
      | outgrown=>exact ho2.elim
 | _,_,hM,.block id x,D,I,e,a,w,Q,hc,ha,hz,hd,h=>by
  simp only[chk]at hc
  cases hx:chk P V R n x D with
  | none=>simp[hx]at hc
  | some Ix =>
   obtain⟨nx,Ex⟩:=Ix
   simp only[hx,zAn]at hc
   subst hc
   refine wpIn_block (wpIn_mono (zMC hM x D _ e a w _ hx ha hz hd h) ?_)
   rintro ex a2 w2 ⟨e2,hq,hs2,hz2,hd2,ho2⟩
   cases ex with
   | normal =>
    obtain⟨⟨d,hd,hag⟩,hun⟩:=ho2
    exact⟨e2,hq,hs2,hz2,hd2,zQg (by simp at hd;simp[hd]) hag,hun⟩
   | exit j =>
    obtain⟨⟨d,hdm,hag⟩,hun⟩:=ho2
    simp only[Exit.inBlock]
    cases hb:Nat.beq j id with
    | true =>
     have:=zA3 hb
     subst this
     simp only[if_true]
     simp only[zZR,hb,cond_true]at hq
     exact⟨e2,hq,hs2,hz2,hd2,zQg (List.mem_append_right _ (zAcu hdm)) hag,hun⟩
    | false =>
     have hne:j≠id:=λhe=>by subst he;rw[zB1]at hb;cases hb
     rw[if_neg hne]
     simp only[zZR,hb,cond_false]at hq
     exact⟨e2,hq,hs2,hz2,hd2,⟨d,zZS hb hdm,hag⟩,hun⟩
   | ret=>exact⟨e2,hq,hs2,hz2,hd2,ho2⟩
   | goto l=>exact ho2.elim
   | panic c=>exact ho2.elim
   | outgrown=>exact ho2.elim
 | _,_,hM,.loop x,D,I,e,a,w,Q,hc,ha,hz,hd,h=>by
  simp only[chk]at hc
  cases hx:chk P V R n x (both V (asg x) D++rm (asg x) D) with
  | none=>simp[hx]at hc
  | some Ix =>
   obtain⟨nx,Ex⟩:=Ix
   simp only[hx]at hc
   cases hsub:(match nx with|some d=>zAcr (both V (asg x) D) d|none=>true) with
   | false=>simp only[hsub,cond_false,reduceCtorEq]at hc
   | true =>
    simp only[hsub,cond_true,zAn]at hc
    subst hc
    simp only[den]at h
    obtain⟨J,μ,h0,hr⟩:=h
    have hmapL:∀ (f g:Env),zF7 D f g->(both V (asg x) D).map f=(both V (asg x) D).map g:=λf g hfg=>zBW λi hi=>by
     have:=(zBd.1 hi).2
     simp only[zAk]at this
     exact hfg i (zDI.1 this.2)
    refine wpIn_loop (λa' w'=>zJI w w'/\a'.tmps.size=n/\Mks _ _ a'.defers w'.heap/\(∀ i,i∉asg x->zDX a' i=zDX a i)/\J ((both V (asg x) D).map (zDX a')) w'.heap)
     (λa' w'=>μ ((both V (asg x) D).map (zDX a')) w'.heap) ⟨zJI.rfl' w,hz,hd,λ_ _=>rfl,by rw[<- hmapL e (zDX a) ha];exact h0⟩ ?_
    rintro a' w' ⟨hs,hz',hd',hun,hJ⟩
    have hb:=hr _ _ (by simp) hJ
    rw[Cur.app_of (by simp)]at hb
    have hag:zF7 (both V (asg x) D++rm (asg x) D) (mg (asg x) (both V (asg x) D) e ((both V (asg x) D).map (zDX a'))) (zDX a'):=zRC rfl ha hun rfl
    refine wpIn_mono (zMC hM x _ _ _ a' w' _ hx hag hz' hd' hb) ?_
    rintro ex a2 w2 ⟨e2,hq,hs2,hz2,hd2,ho2⟩
    cases ex with
    | normal =>
     obtain⟨⟨d,hde,hag2⟩,hun2⟩:=ho2
     simp only at hde
     subst hde
     simp only[zXp]at hq
     rw[Cur.app_of (by simp)]at hq
     have em:(both V (asg x) D).map e2=(both V (asg x) D).map (zDX a2):=zBW λi hi=>hag2 i (zDI.1 (zAw.1 hsub i hi))
     rw[em]at hq
     exact⟨⟨hs.trans hs2,hz2,hd2,λi hi=>(hun2 i hi).trans (hun i hi),hq.1⟩,hq.2⟩
    | exit id=>exact⟨e2,hq,hs.trans hs2,hz2,hd2,ho2.1,λi hi=>(ho2.2 i hi).trans (hun i hi)⟩
    | ret=>exact⟨e2,hq,hs.trans hs2,hz2,hd2,ho2⟩
    | goto l=>exact ho2.elim
    | panic c=>exact ho2.elim
    | outgrown=>exact ho2.elim
 | _,_,hM,.exit id,D,I,e,a,w,Q,hc,ha,hz,hd,h=>by
  simp only[chk,zAn]at hc
  subst hc
  exact wpIn_exit ⟨e,h,zJI.rfl' w,hz,hd,⟨D,by simp,ha⟩,λ_ _=>rfl⟩
 | _,_,hM,.ret,D,I,e,a,w,Q,hc,ha,hz,hd,h=>by
  simp only[chk]at hc
  cases hs:zAcr R D with
  | false=>rw[hs]at hc;cases hc
  | true =>
   rw[hs]at hc
   exact wpIn_ret ⟨e,h,zJI.rfl' w,hz,hd,λi hi=>ha i (zDI.1 (zAw.1 hs i hi))⟩
 | ro,M,hM,.rangeFunc g ps as b,D,I,e,a,w,Q,hc,ha,hz,hd,h=>by
  simp only[chk]at hc
  cases hcond:(zYA D g&&ps.toList.all (λp=>Nat.ble (p+1) n)&&(!zNq b || zAcr R D)) with
  | false=>rw[hcond]at hc;cases hc
  | true =>
   rw[hcond]at hc
   simp only[cond_true]at hc
   simp only[zAk]at hcond
   obtain⟨⟨hg,hps⟩,hret⟩:=hcond
   cases hcas:chk P V R n as (ps.toList++D) with
   | none=>simp[hcas]at hc
   | some Ias =>
   obtain⟨nas,Eas⟩:=Ias
   cases nas with
   | none=>simp[hcas]at hc
   | some Da =>
   have hnrm:zSy P V R n as (ps.toList++D)=Da:=by simp[zSy,hcas]
   simp only[hcas]at hc
   cases hb:chk P V R n b Da with
   | none=>simp[hb]at hc
   | some Ib =>
    simp only[hb,zAn]at hc
    subst hc
    cases M with
    | false=>simp[den]at h
    | true =>
     have hro:=hM rfl
     subst hro
     simp only[den,cond_true,hnrm]at h
     obtain⟨hn0,h⟩:=h
     refine wpIn_rangeFunc λfn _=>?_
     obtain⟨rec,hrec⟩:∃ rec:Loop,rec = { state := .ready,pending:=none,fn,tmps:=a.tmps,params:=ps,assign:=as,body:=b,defers:=w.heap.size }:=⟨_,rfl⟩
     have hev:a.eval g=ev e g:=by
      rw[zMu]
      cases g<;>first|rfl|exact(ha _ (zDI.1 hg)).symm
     have hcall:=h rec (by rw[hrec]) (by rw[hrec]) ?_
     ·obtain⟨f,fi,ca,hf,hbody,hcall⟩:=hcall
      obtain⟨fnn,cc,hff,hfb,hname⟩:=zPz hbody
      have hent:∀ args w,(callFunc f args).run P w = .ok (.enter f args) w:=λargs w=>by
       simp only[callFunc,Sem.run_bind,run_program,Result.andThen_ok,hff,hname,hfb];simp
      obtain⟨w1,hw1⟩:∃ w1,(w.alloc (.deferred (some []))).alloc (.loop rec)=w1:=⟨_,rfl⟩
      have hheap:w1.heap=(w.heap.push (.deferred (some []))).push (.loop rec):=by rw[<- hw1];rfl
      have hs1:zJI w w1:=by rw[<- hw1];exact⟨rfl,rfl,rfl,zF5.push.trans zF5.push⟩
      have hk1:w1.heap[w.heap.size]? = some (.deferred (some [])):=by rw[hheap,zCf,if_neg (by simp)];simp
      refine⟨w.heap.size+1,[{ target := .collected w.heap.size,args:=#[] }],w1,{ target := .fn (.func f) ca,args:=fi++#[.func (.yield (w.heap.size+1)) #[] #[]] },w1,f,(fi++#[.func (.yield (w.heap.size+1)) #[] #[]])++ca,w1,?_,?_,λ_ _=>trivial,?_,λh=>(by cases h),?_⟩
      ·rw[<- hw1,hrec];exact run_enterLoop_outer _ _ _ _ _
      ·simp only[resolve,hev,hf,Deferred.ofValue]
       simp[Act.eval]
      ·simp only[invoke,hent]
      ·have e1:(fi.toList++[Value.func (.yield (w.heap.size+1)) #[] #[]]++ca.toList).toArray=(fi++#[.func (.yield (w.heap.size+1)) #[] #[]])++ca:=by apply Array.ext';simp
       have hc1:=hcall w1 hheap
       rw[e1]at hc1
       refine zSv (hc1.mono ?_)
       rintro en w3 ⟨v,rfl,hs3,r',hr',hst,hrest⟩
       have hmk:Mks true n0 ({ target := .collected w.heap.size,args:=#[] } :: a.defers) w3.heap:=by
        refine⟨λh=>(by cases h),.cons (λd hd' he=>?_) hd.2.1,λd hd'=>?_⟩
        ·obtain⟨r,h1,_,h3⟩:=hd.2.2 d hd'
         rw[h1]at he
         cases he
         simp at h3
        ·rcases zAs.1 hd' with rfl|hd'
         ·exact⟨_,rfl,hn0,hs3.solid _ _ hk1⟩
         ·obtain⟨r,h1,h2,h3⟩:=hd.2.2 d hd'
          exact⟨r,h1,h2,hs3.solid _ _ (hs1.solid _ _ h3)⟩
       have hsl:zF5 w3.heap (w3.heap.setIfInBounds (w.heap.size+1) (.loop { r' with state := .exhausted })):=zF5.setL hr'
       obtain⟨w4,hw4⟩:∃ w4,w4=w3.putObj (w.heap.size+1) (.loop { r' with state := .exhausted }):=⟨_,rfl⟩
       have hs4:zJI w w4:=by rw[hw4];exact hs1.trans (hs3.trans ⟨rfl,rfl,rfl,hsl⟩)
       have hmk4:Mks true n0 ({ target := .collected w.heap.size,args:=#[] } :: a.defers) w4.heap:=by rw[hw4];exact hmk.solid hsl
       have hrest4:zYE (zNq b) Q e (zAct (chk P V R n b Da)) r'.pending w4.heap:=by rw[hw4];exact hrest
       refine⟨r'.pending,w4,by rw[hw4];exact run_endLoop hr' hst,?_⟩
       clear hrest hw4
       rcases zXq hrest4 with ⟨hj,hq⟩|⟨hj,hrt,hq⟩|⟨id,hj,hid,hq⟩
       ·rw[hj];exact⟨e,hq,hs4,hz,hmk4,⟨D,rfl,ha⟩,λ_ _=>rfl⟩
       ·rw[hj]
        rw[hrt]at hret
        exact wpIn_ret ⟨e,hq,hs4,hz,hmk4,λi hi=>ha i (zDI.1 (zAw.1 hret i hi))⟩
       ·rw[hj]
        rw[hb]at hid
        obtain⟨d,hd'⟩:=zAcv hid
        exact wpIn_exit ⟨e,hq,hs4,hz,hmk4,⟨D,zAo.2 ⟨(id,d),hd',rfl⟩,ha⟩,λ_ _=>rfl⟩
     ·intro args hh k hl hB wy hwy
      subst hwy
      obtain⟨hlen,hB⟩:=hB
      have hy:=run_yield (P:=P) (args:=args.toArray) hl (by rw[hrec];simpa using hlen)
      rw[hrec]at hy
      refine⟨fn,_,as,b,hy,?_⟩
      have hag:zF7 (ps.toList++D) (zYF ps.toList 0 args e) (zDX { tmps:=(ps.zip args.toArray).foldl (λt (p,v)=>t.setIfInBounds p v) a.tmps,defers:=[] }):=zYH hz hps (by simpa using hlen) ha
      have hz2:((ps.zip args.toArray).foldl (λt (p,v)=>t.setIfInBounds p v) a.tmps).size=n:=by rw[zYG];exact hz
      have hr0:=roundIn_of_wpIn (F:=Fr none) (n:=0) (P:=P) (l:=w.heap.size+1) (f:=fn) (tmps:=(ps.zip args.toArray).foldl (λt (p,v)=>t.setIfInBounds p v) a.tmps) (assign:=as) (body:=b) (w:=wy)
       (R:=λen w'=>∃ v,en = .returned v/\zJI wy w'/\k v w'.heap) trivial (wpIn_mono (zMC (ro:=some (w.heap.size+1)) (M:=false) (λh=>(by cases h)) as _ _ _ { tmps:=(ps.zip args.toArray).foldl (λt (p,v)=>t.setIfInBounds p v) a.tmps,defers:=[] } wy _ hcas hag hz2 Mks.nil hB) ?_)
      ·exact hr0
      ·rintro ex1 a1 w1 ⟨e1,hq1,hs1,hz1,hd1,ho1⟩
       cases ex1 with
       | exit id=>exact hq1.elim
       | ret=>exact hq1.elim
       | goto l=>exact hq1.elim
       | panic c=>exact hq1.elim
       | outgrown=>exact hq1.elim
       | normal =>
       obtain⟨⟨d1,hd1',hag1⟩,_⟩:=ho1
       simp only[zAn]at hd1'
       subst hd1'
       obtain⟨r1,hl1,hst1,hB1⟩:=hq1
       have hsl:zF5 w1.heap (w1.heap.setIfInBounds (w.heap.size+1) (.loop { r1 with state := .busy })):=zF5.setL hl1
       refine⟨_,run_beginRound (P:=P) hl1 hst1,?_⟩
       refine wpIn_mono (zMC (ro:=some (w.heap.size+1)) (M:=false) (λh=>(by cases h)) b _ _ _ a1 (w1.putObj (w.heap.size+1) (.loop { r1 with state := .busy })) _ hb hag1 hz1 (hd1.solid hsl) hB1) ?_
       rintro ex a2 w2 ⟨e2,hq,hs2,_,_,ho⟩
       have fin:∀ j:Option Code,(∃ r',w2.heap[w.heap.size+1]? = some (.loop r')/\k (.bool j.isNone) (w2.heap.setIfInBounds (w.heap.size+1) (.loop { r' with state:=if j.isNone then .ready else .done,pending:=j }))) ->
         ∃ v w',(Instr.endRound (w.heap.size+1) j).run P w2 = .ok v w'/\∃ v',Ending.returned v = .returned v'/\zJI wy w'/\k v' w'.heap:=by
        rintro j ⟨r',hr',hk'⟩
        have hsa:zJI wy (w1.putObj (w.heap.size+1) (.loop { r1 with state := .busy })):=hs1.trans ⟨rfl,rfl,rfl,hsl⟩
        have hsb:zJI w2 (w2.putObj (w.heap.size+1) (.loop { r' with state:=if j.isNone then .ready else .done,pending:=j })):=⟨rfl,rfl,rfl,zF5.setL hr'⟩
        exact⟨_,_,run_endRound j hr',_,rfl,hsa.trans (hs2.trans hsb),hk'⟩
       cases ex with
       | normal=>exact fin none hq
       | ret=>exact fin (some .ret) hq
       | exit id=>exact fin (some (.exit id)) hq
       | goto l=>exact ho.elim
       | panic c=>exact ho.elim
       | outgrown=>exact ho.elim
 | _,_,hM,.scope x,D,I,e,a,w,Q,hc,ha,hz,hd,h=>by
  simp only[chk]at hc
  simp only[den]at h
  refine zAa3 (zMC hM x D I e a w Q hc ha hz hd h) λl a' w' hq=>?_
  obtain⟨e',_,_,_,_,ho⟩:=hq
  exact ho.elim
 | _,_,hM,.label l,D,I,e,a,w,Q,hc,ha,hz,hd,h=>by
  simp only[chk,zAn]at hc
  subst hc
  simp only[den]at h
  exact wpIn_label ⟨e,h,zJI.rfl' w,hz,hd,⟨D,rfl,ha⟩,λ_ _=>rfl⟩
 | _,_,hM,.goto l,D,I,e,a,w,Q,hc,ha,hz,hd,h=>by simp[den]at h
 | _,_,hM,.refuse l,D,I,e,a,w,Q,hc,ha,hz,hd,h=>by simp[den]at h
def zAa4 (P:Program):List ResultVar->Env->zAx->(List Value->Prop)->Prop
 | [],_,_,k=>k []
 | .tmp t::r,e,H,k=>zAa4 P r e H λvs=>k (e t::vs)
 | .cell t T::r,e,H,k=>bif zNc P T then Mpu (ldN (P.cellsOf T) H (e t)) (λv=>zAa4 P r e H λvs=>k (v::vs)) else
   bif zAbQ P T then Mpu (ld1 H (e t)) (λv=>zAa4 P r e H λvs=>k (v::vs)) else False
def zXr:List Value->Value
 | [v]=>v
 | vs => .tuple vs.toArray
def zGX:List ResultVar->List Nat
 | []=>[]
 | .tmp t::r=>t::zGX r
 | .cell t _::r=>t::zGX r
def zAbT:Nat->List Nat
 | 0=>[]
 | n+1=>n::zAbT n
def zAgB (args:List Value):Env:=λi=>args.getD i undef
def zAmG (P:Program)(fn:Func)(R:zAm):Exit->Env->zAx->Prop
 | .normal,e,H=>zAa4 P fn.results.toList e H λvs=>R (zXr vs) H
 | .ret,e,H=>zAa4 P fn.results.toList e H λvs=>R (zXr vs) H
 | _,_,_=>False
def zOX (n0:Nat)(h h':zAx):Prop:=h'.size=h.size/\(∀ i:Nat,i<n0->h'[i]? = h[i]?)/\∀ (i:Nat) (x:Obj),h[i]? = some x->(∀ ds:Option (List Deferred),x≠Obj.deferred ds)->h'[i]? = some x
def Mcl (n0:Nat)(h:zAx)(k:zAx->Prop):Prop:=∀ h',zOX n0 h h'->k h'
def zAmH (P:Program)(n0:Nat)(fn:Func)(R:zAm):Exit->Env->zAx->Prop
 | .normal,e,H=>Mcl n0 H λH=>zAa4 P fn.results.toList e H λvs=>R (zXr vs) H
 | .ret,e,H=>Mcl n0 H λH=>zAa4 P fn.results.toList e H λvs=>R (zXr vs) H
 | _,_,_=>False
def zAlm (P:Program)(V:List Nat)(fn:Func)(args:List Value)(H:zAx)(R:zAm):Prop :=
 match fn.body with
 | some c=>bif zUX c then den P V (zGX fn.results.toList) fn.ntmps H.size true c (zAbT args.length) (zAgB args) H (zAmH P H.size fn R)
  else den P V (zGX fn.results.toList) fn.ntmps 0 false c (zAbT args.length) (zAgB args) H (zAmG P fn R)
 | none=>False
def zAln (P:Program)(V:List Nat)(fn:Func)(nargs:Nat):Bool :=
 match fn.body with
 | some c=>Nat.ble nargs fn.ntmps&&(match chk P V (zGX fn.results.toList) fn.ntmps c (zAbT nargs) with
  | some ⟨some d,_⟩=>zAcr (zGX fn.results.toList) d
  | some ⟨none,_⟩=>true
  | none=>false)
 | none=>false
theorem zAeS {n i:Nat}:i∈zAbT n↔i<n:=by
 induction n with
 | zero=>simp[zAbT]
 | succ n ih=>simp only[zAbT,zAs,ih];omega
theorem zWa {P:Program}{w:World}{tmps:Array Value}:∀ {l:List ResultVar} {e:Env} {k:List Value->Prop},(∀ i,i∈zGX l->e i=tmps.getD i undef)->zAa4 P l e w.heap k ->
  ∃ vs,k vs/\∀ g:ResultVar->Sem Value,(∀ t,g (.tmp t)=pure (tmps.getD t undef))->(∀ a t,g (.cell a t)=do loadVar t (<- asAddr (tmps.getD a undef)))->(l.mapM g).run P w = .ok vs w
 | [],e,k,_,h=>⟨[],h,by simp⟩
 | .tmp t::r,e,k,ha,h=>by
  obtain⟨vs,hk,hr⟩:=zWa (l:=r) (λi hi=>ha i (by simp[zGX,hi])) h
  refine⟨_,hk,λg hg1 hg2=>?_⟩
  rw[List.mapM_cons,hg1]
  simp only[Sem.run_bind,Sem.run_pure,Result.andThen_ok,hr g hg1 hg2]
  rw[ha t (by simp[zGX])]
 | .cell t T::r,e,k,ha,h=>by
  simp only[zAa4]at h
  have key:∀ v:Value,(Instr.loadAt T (e t)).run P w = .ok v w->(zAa4 P r e w.heap λvs=>k (v::vs))->∃ vs,k vs/\∀ g:ResultVar->Sem Value,(∀ t,g (.tmp t)=pure (tmps.getD t undef))->(∀ a t,g (.cell a t)=do loadVar t (<- asAddr (tmps.getD a undef)))->((ResultVar.cell t T::r).mapM g).run P w = .ok vs w:=by
   intro v hv hh
   obtain⟨vs,hk,hr⟩:=zWa (l:=r) (λi hi=>ha i (by simp[zGX,hi])) hh
   refine⟨_,hk,λg hg1 hg2=>?_⟩
   rw[List.mapM_cons,hg2]
   have hl:(do loadVar T (<- asAddr (tmps.getD t undef)):Sem Value).run P w = .ok v w:=by
    rw[<- ha t (by simp[zGX])]
    revert hv
    cases e t<;>simp only[Instr.loadAt,Instr.sureAddr,asAddr]<;>first|(intro hv;simp at hv;done)|skip
    rename_i o
    cases o<;>simp[Instr.sureAddr,asAddr]
   rw[Sem.run_bind,hl]
   simp only[Result.andThen_ok,Sem.run_bind,hr g hg1 hg2,Sem.run_pure]
  cases hagg:zNc P T with
  | true =>
   rw[hagg]at h
   obtain⟨v,hv,hh⟩:=h
   exact key v (zW5 hagg hv w rfl) hh
  | false =>
   cases hs:zAbQ P T with
   | true =>
    rw[hagg,hs]at h
    obtain⟨v,hv,hh⟩:=h
    exact key v (zW4 (zTS hs).1 hagg hv w rfl) hh
   | false=>rw[hagg,hs]at h;exact h.elim
theorem zT3 {P:Program}{w:World}{fn:Func}{tmps:Array Value}{e:Env}{k:List Value->Prop}(ha:∀ i,i∈zGX fn.results.toList->e i=tmps.getD i undef)(h:zAa4 P fn.results.toList e w.heap k) :
  ∃ vs,k vs/\(results fn tmps).run P w = .ok (zXr vs) w:=by
 unfold results
 rw[Sem.run_bind,Array.mapM_eq_mapM_toList,Sem.run_map]
 obtain⟨vs,hk,hr⟩:=zWa ha h
 refine⟨vs,hk,?_⟩
 rw[hr]
 rotate_left
 ·intro t;rfl
 ·intro a t;rfl
 simp only[Result.andThen_ok,Sem.run_pure]
 congr 1
 match vs with
 | []=>rfl
 | [v]=>rfl
 | v::v'::vs=>simp[zXr]
theorem zOX.refl {n0:Nat}{h:zAx}:zOX n0 h h:=⟨rfl,λ_ _=>rfl,λ_ _ h _=>h⟩
theorem zTd {P:Program}{m:Nat}{fn:Func}{tmps:Array Value}{w0:World}{R:Ending->World->Prop}:∀ {df:List Deferred} {w:World},df.Pairwise (λx y=>x.target≠y.target)->(∀ d∈df,∃ r,d.target = .collected r/\w0.heap.size<=r/\w.heap[r]? = some (.deferred (some [])))->zJI w0 w ->
  (∀ w2,zOX w0.heap.size w.heap w2.heap->zJI w0 w2->LeavesIn (Fr none) m P fn tmps R [] .returning w2)->LeavesInM (Fr none) m P fn tmps R df .returning w
 | [],w,_,_,hs,h=>h w zOX.refl hs
 | d::df,w,hp,hm,hs,h=>by
  obtain⟨r,h1,h2,h3⟩:=hm d (by simp)
  have hp':=zCg.1 hp
  have hs':zJI w0 (w.putObj r (.deferred none)):=⟨hs.os,hs.tape,hs.output,λi ds hi=>by
   rw[World.putObj_heap_other (by have:=(zBk.1 hi).1;omega)];exact hs.solid i ds hi⟩
  refine⟨by simp,.inl ⟨r,_,h1,run_takeDeferred h3,zTd (w0:=w0) hp'.2 (λd' hd'=>?_) hs' λw2 hc hs2=>h w2 ?_ hs2⟩⟩
  ·obtain⟨r',k1,k2,k3⟩:=hm d' (by simp[hd'])
   refine⟨r',k1,k2,?_⟩
   rw[World.putObj_heap_other (λhe=>hp'.1 d' hd' (by rw[h1,k1,he]))];exact k3
  ·obtain⟨c1,c2,c3⟩:=hc
   refine⟨by rw[c1];simp,λi hi=>by rw[c2 i hi,World.putObj_heap_other (by omega)],λi x hx hn=>c3 i x ?_ hn⟩
   rw[World.putObj_heap_other (λhe=>by subst he;rw[h3]at hx;cases hx;exact hn _ rfl)];exact hx
theorem zAeT {P:Program}{f:FuncId}{fn:Func}{V:List Nat}{args:List Value}{H:zAx}{R:zAm}(hf:P.funcs[f]? = some fn)(hc:zAln P V fn args.length=true)(h:zAlm P V fn args H R):zAA P f args H R:=by
 intro w hw
 subst hw
 unfold zAln at hc
 unfold zAlm at h
 cases hb:fn.body with
 | none=>simp[hb]at h
 | some c =>
  simp only[hb,zAk]at hc h
  obtain⟨hle,hc⟩:=hc
  have hle:=zDa hle
  cases hI:chk P V (zGX fn.results.toList) fn.ntmps c (zAbT args.length) with
  | none=>simp[hI]at hc
  | some I =>
   simp only[hI]at hc
   have hA:zF7 (zAbT args.length) (zAgB args) (zDX { tmps:=args.toArray++Array.replicate (fn.ntmps-args.toArray.size) undef,defers:=[] }):=by
    intro i hi
    have hi:=zAeS.1 hi
    simp[zAgB,zDX,Array.getElem?_append,hi]
   have hZ:(args.toArray++Array.replicate (fn.ntmps-args.toArray.size) undef).size=fn.ntmps:=by simp;omega
   cases hrf:zUX c with
   | false =>
    rw[hrf]at h
    simp only[cond_false]at h
    refine(callsIn_wide (n:=0)).1 (callsIn_of_wp (F:=Fr none) hf hb trivial ?_)
    refine wpIn_mono (zMC (M:=false) (λh=>(by cases h)) c _ I (zAgB args) { tmps:=args.toArray++Array.replicate (fn.ntmps-args.toArray.size) undef,defers:=[] } w _ hI hA hZ Mks.nil h) ?_
    rintro ex a' w' ⟨e',hq,hs,hz,hd,ho⟩
    have hd:=hd.1 rfl
    have fin:∀ e':Env,zF7 (zGX fn.results.toList) e' (zDX a')->(zAa4 P fn.results.toList e' w'.heap λvs=>R (zXr vs) w'.heap)->∃ v,(results fn a'.tmps).run P w' = .ok v w'/\∃ v',Ending.returned v = .returned v'/\zJI w w'/\R v' w'.heap:=by
     intro e' hag hres
     obtain⟨vs,hR,hr⟩:=zT3 (fn:=fn) (tmps:=a'.tmps) (λi hi=>hag i hi) hres
     exact⟨_,hr,_,rfl,hs,hR⟩
    cases ex with
    | normal =>
     obtain⟨⟨d,hde,hag⟩,_⟩:=ho
     obtain⟨nrm,exs⟩:=I
     simp only at hde
     subst hde
     simp only at hc
     exact⟨hd,fin e' (λi hi=>hag i (zDI.1 (zAw.1 hc i hi))) hq⟩
    | ret=>exact⟨hd,fin e' ho hq⟩
    | exit id=>exact hq.elim
    | goto l=>exact hq.elim
    | panic c=>exact hq.elim
    | outgrown=>exact hq.elim
   | true =>
    rw[hrf]at h
    simp only[cond_true]at h
    refine(callsIn_wide (n:=0)).1 (callsIn_of_wp_marks (F:=Fr none) hf hb trivial ?_)
    refine wpIn_mono (zMC (M:=true) (λ_=>rfl) c _ I (zAgB args) { tmps:=args.toArray++Array.replicate (fn.ntmps-args.toArray.size) undef,defers:=[] } w _ hI hA hZ Mks.nil h) ?_
    rintro ex a' w' ⟨e',hq,hs,hz,hd,ho⟩
    have fin:∀ e':Env,zF7 (zGX fn.results.toList) e' (zDX a')->(Mcl w.heap.size w'.heap λH=>zAa4 P fn.results.toList e' H λvs=>R (zXr vs) H) ->
      LeavesInM (Fr none) 0 P fn a'.tmps (λe w'=>∃ v,e = .returned v/\zJI w w'/\R v w'.heap) a'.defers .returning w':=by
     intro e' hag hres
     refine zTd hd.2.1 hd.2.2 hs λw2 hcl hs2=>?_
     obtain⟨vs,hR,hr⟩:=zT3 (fn:=fn) (tmps:=a'.tmps) (w:=w2) (λi hi=>hag i hi) (hres _ hcl)
     exact⟨_,hr,_,rfl,hs2,hR⟩
    cases ex with
    | normal =>
     obtain⟨⟨d,hde,hag⟩,_⟩:=ho
     obtain⟨nrm,exs⟩:=I
     simp only at hde
     subst hde
     simp only at hc
     exact fin e' (λi hi=>hag i (zDI.1 (zAw.1 hc i hi))) hq
    | ret=>exact fin e' ho hq
    | exit id=>exact hq.elim
    | goto l=>exact hq.elim
    | panic c=>exact hq.elim
    | outgrown=>exact hq.elim
def J0 (body:(zAx->Prop)->Prop)(rest:zAx->Prop):Prop:=zLe 0 body rest
@[simp] theorem zAcw {body:(zAx->Prop)->Prop}{rest:zAx->Prop}:J0 body rest↔body rest:=zGu
def L0 (body:(zAx->Prop)->zAx->Prop)(H:zAx):Prop:=zV2 0 body [] H
def J1 (body:(zAm)->Prop)(rest:zAm):Prop:=zLe 1 body rest
@[simp] theorem zBT {body:(zAm)->Prop}{rest:zAm}:J1 body rest↔body rest:=zGu
def L1 (body:(zAm)->zAm)(x:Value)(H:zAx):Prop:=zV2 1 body [x] H
def J2 (body:(Value->zAm)->Prop)(rest:Value->zAm):Prop:=zLe 2 body rest
@[simp] theorem zAcx {body:(Value->zAm)->Prop}{rest:Value->zAm}:J2 body rest↔body rest:=zGu
def L2 (body:(Value->zAm)->Value->zAm)(x y:Value)(H:zAx):Prop:=zV2 2 body [x,y] H
def J3 (body:(Value->Value->zAm)->Prop)(rest:Value->Value->zAm):Prop:=zLe 3 body rest
@[simp] theorem zAlI {body:(Value->Value->zAm)->Prop}{rest:Value->Value->zAm}:J3 body rest↔body rest:=zGu
def L3 (body:(Value->Value->zAm)->Value->Value->zAm)(x y z:Value)(H:zAx):Prop:=zV2 3 body [x,y,z] H
def J4 (body:(Value->Value->Value->zAm)->Prop)(rest:Value->Value->Value->zAm):Prop:=zLe 4 body rest
@[simp] theorem zAnh {body:(Value->Value->Value->zAm)->Prop}{rest:Value->Value->Value->zAm}:J4 body rest↔body rest:=zGu
def L4 (body:(Value->Value->Value->zAm)->Value->Value->Value->zAm)(x y z u:Value)(H:zAx):Prop:=zV2 4 body [x,y,z,u] H
def J5 (body:(Value->Value->Value->Value->zAm)->Prop)(rest:Value->Value->Value->Value->zAm):Prop:=zLe 5 body rest
@[simp] theorem zAjK {body:(Value->Value->Value->Value->zAm)->Prop}{rest:Value->Value->Value->Value->zAm}:J5 body rest↔body rest:=zGu
def L5 (body:(Value->Value->Value->Value->zAm)->Value->Value->Value->Value->zAm)(x y z u v:Value)(H:zAx):Prop:=zV2 5 body [x,y,z,u,v] H
def J6 (body:(Value->Value->Value->Value->Value->zAm)->Prop)(rest:Value->Value->Value->Value->Value->zAm):Prop:=zLe 6 body rest
@[simp] theorem zAni {body:(Value->Value->Value->Value->Value->zAm)->Prop}{rest:Value->Value->Value->Value->Value->zAm}:J6 body rest↔body rest:=zGu
def J7 (body:(Value->Value->Value->Value->Value->Value->zAm)->Prop)(rest:Value->Value->Value->Value->Value->Value->zAm):Prop:=zLe 7 body rest
@[simp] theorem zAnj {body:(Value->Value->Value->Value->Value->Value->zAm)->Prop}{rest:Value->Value->Value->Value->Value->Value->zAm}:J7 body rest↔body rest:=zGu
def J8 (body:(Value->Value->Value->Value->Value->Value->Value->zAm)->Prop)(rest:Value->Value->Value->Value->Value->Value->Value->zAm):Prop:=zLe 8 body rest
@[simp] theorem zAnk {body:(Value->Value->Value->Value->Value->Value->Value->zAm)->Prop}{rest:Value->Value->Value->Value->Value->Value->Value->zAm}:J8 body rest↔body rest:=zGu
def L8 (body:(Value->Value->Value->Value->Value->Value->Value->zAm)->Value->Value->Value->Value->Value->Value->Value->zAm)(x0 x1 x2 x3 x4 x5 x6 x7:Value)(H:zAx):Prop:=zV2 8 body [x0,x1,x2,x3,x4,x5,x6,x7] H
def J9 (body:(Value->Value->Value->Value->Value->Value->Value->Value->zAm)->Prop)(rest:Value->Value->Value->Value->Value->Value->Value->Value->zAm):Prop:=zLe 9 body rest
@[simp] theorem zAlJ {body:(Value->Value->Value->Value->Value->Value->Value->Value->zAm)->Prop}{rest:Value->Value->Value->Value->Value->Value->Value->Value->zAm}:J9 body rest↔body rest:=zGu
def J10 (body:(Value->Value->Value->Value->Value->Value->Value->Value->Value->zAm)->Prop)(rest:Value->Value->Value->Value->Value->Value->Value->Value->Value->zAm):Prop:=zLe 10 body rest
@[simp] theorem zAmI {body:(Value->Value->Value->Value->Value->Value->Value->Value->Value->zAm)->Prop}{rest:Value->Value->Value->Value->Value->Value->Value->Value->Value->zAm}:J10 body rest↔body rest:=zGu
def J11 (body:(Value->Value->Value->Value->Value->Value->Value->Value->Value->Value->zAm)->Prop)(rest:Value->Value->Value->Value->Value->Value->Value->Value->Value->Value->zAm):Prop:=zLe 11 body rest
@[simp] theorem zAmJ {body:(Value->Value->Value->Value->Value->Value->Value->Value->Value->Value->zAm)->Prop}{rest:Value->Value->Value->Value->Value->Value->Value->Value->Value->Value->zAm}:J11 body rest↔body rest:=zGu
def J12 (body:(Value->Value->Value->Value->Value->Value->Value->Value->Value->Value->Value->zAm)->Prop)(rest:Value->Value->Value->Value->Value->Value->Value->Value->Value->Value->Value->zAm):Prop:=zLe 12 body rest
@[simp] theorem zAmK {body:(Value->Value->Value->Value->Value->Value->Value->Value->Value->Value->Value->zAm)->Prop}{rest:Value->Value->Value->Value->Value->Value->Value->Value->Value->Value->Value->zAm}:J12 body rest↔body rest:=zGu
end Go.X
