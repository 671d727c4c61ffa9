import Derived.Test.YticdfkoncnnmmaaGreatDoorGC
import Derived.RangeFuncRecord
set_option linter.unusedSimpArgs false
set_option linter.unusedVariables false
namespace Go.X
def zDT (a:Act):Env:=λi=>a.tmps.getD i undef
theorem zMg (a:Act):a.eval=ev (zDT a):=by
 funext x;cases x<;>rfl
theorem zWw {a:Act}{d:Option Nat}{v:Value}(h:∀ t,d=some t->t<a.tmps.size):zDT (a.put d v)=(zDT a).put d v:=by
 cases d with
 | none=>rfl
 | some d =>
  have hd:=h d rfl
  funext i
  by_cases hi:i=d
  ·subst hi
   rw[zNT]
   simp[zDT,Act.put,hd]
  ·rw[zJu (by simpa using λh=>hi h.symm)]
   simp[zDT,Act.put,Array.getElem?_setIfInBounds_ne (Ne.symm hi)]
theorem zY3 {a:Act}{d:Option Nat}{v:Value}:(a.put d v).tmps.size=a.tmps.size:=by
 cases d<;>simp[Act.put]
theorem zTt {a:Act}{d:Option Nat}{v:Value}:(a.put d v).defers=a.defers:=by
 cases d<;>rfl
theorem zUN {ops:Array Oper}{o:Oper}{a:Act}{b:Bool}(h:act ops o (zDT a)=some b):Region.wanted o (yielded ops a.tmps)=b:=by
 unfold act at h
 unfold Region.wanted
 cases hg:o.guard with
 | none=>simp only[hg,zAm]at h ⊢;exact h
 | some g =>
  obtain⟨j,want⟩:=g
  simp only[hg]at h ⊢
  cases ht:(ops[j]?).bind (·.dst) with
  | none=>simp[ht]at h
  | some t =>
   simp only[ht]at h
   by_cases hbb:∃ b',zDT a t = .bool b'
   ·obtain⟨b',hv⟩:=hbb
    rw[hv]at h
    simp only[zAm]at h
    have:a.tmps[t]? = some (.bool b'):=by
     unfold zDT at hv
     rw[zBt]at hv
     cases hq:a.tmps[t]? with
     | none=>rw[hq]at hv;cases hv
     | some x=>rw[hq]at hv;simp only[Option.getD_some]at hv;rw[hv]
    unfold yielded
    rw[ht]
    simp only[zAY,this]
    rw[<- h]
    cases b'<;>cases want<;>rfl
   ·have hb:b=false:=by
     cases hv:zDT a t<;>simp_all
    subst hb
    have:yielded ops a.tmps j=none:=by
     unfold yielded
     rw[ht]
     simp only[zAY]
     cases hq:a.tmps[t]? with
     | none=>rfl
     | some x =>
      have hx:zDT a t=x:=by unfold zDT;rw[zBt,hq];rfl
      cases x<;>first
       | rfl
       | exact absurd ⟨_,hx⟩ hbb
    rw[this]
    cases want<;>rfl
def zXO (n:Nat)(o:Oper):Bool:=(match o.dst with|some d=>decide (d<n)|none=>true)&&(match o.op with | .select _ _=>false|_=>true)
theorem zAej {n:Nat}{o:Oper}(h:zXO n o=true):∀ t,o.dst=some t->t<n:=by
 intro t ht
 simp only[zXO,ht,zAk,decide_eq_true_eq]at h
 exact h.1
theorem zQ6 {n:Nat}{o:Oper}(h:zXO n o=true):∀ cs b,o.op ≠ .select cs b:=by
 intro cs b he
 simp[zXO,he]at h
theorem zPj {P:Program}{f:FuncId}(h:zPc P f=true):∃ fn c,P.funcs[f]? = some fn/\fn.body=some c/\(fn.name == "runtime.NumGoroutine")=false:=by
 unfold zPc at h
 cases hf:P.funcs[f]? with
 | none=>simp[hf]at h
 | some fn =>
  simp only[hf,zAk,zB6,bne_iff_ne,ne_eq]at h
  obtain⟨⟨c,hc⟩,hn⟩:=h
  exact⟨fn,c,rfl,hc,by simpa using hn⟩
abbrev Fr (ro:Option Nat):Fence:={ fn:=λ_=>True,depth:=none,alive:=false,round:=ro }
theorem zRU {ro:Option Nat}{n:Nat}{P:Program}{f:FuncId}{args:Array Value}{w:World}{R:Ending->World->Prop}(h:Calls P f args w R):CallsIn (Fr ro) n P f args w R:=by
 have h:CallsIn Fence.wide n P f args w R:=callsIn_wide.2 h
 exact h
theorem zAk5 {ro:Option Nat}{m:Nat}{P:Program}{q:Bool}{o:Oper}{a:Act}{w:World}{k:zAn}{next:Act->World->Prop}{Q:Exit->Act->World->Prop}
  (h:opX P q o (ev (zDT a)) w.heap k) (hn:∀ v w',zJs w w'->k v w'.heap->next (a.put o.dst v) w'):o.wpIn (Fr ro) m P a w next Q:=by
 unfold Oper.wpIn
 refine⟨λ_ _=>trivial,?_⟩
 have hsem:∀ r,(execOp a.eval o).run P w=r->(∀ d w',r ≠ .ok (.defer d) w')->(∀ x w',r ≠ .halt x w')->(o.semAt ro a.eval).run P w=r:=λr hr hd hh=>by
  by_cases hop:∃ c,o.op = .defer c
  ·obtain⟨c,hop⟩:=hop
   simp only[execOp,hop,Sem.run_bind]at hr
   cases hres:(resolve a.eval c o.type).run P w with
   | ok d w'=>rw[hres]at hr;exact absurd hr.symm (hd d w')
   | halt x w'=>rw[hres]at hr;exact absurd hr.symm (hh x w')
  ·rw[Oper.semAt_eq ro _ o λc hc=>hop ⟨c,hc⟩];exact hr
 rcases zAbF (λ_=>rfl) h with (⟨c,f,ho,hc,hb,hcall⟩|⟨c,x,ho,hc,hcall⟩)|hraw
 ·obtain⟨fn,body,hf,hbody,hname⟩:=zPj hb
  have hrun:(execOp (ev (zDT a)) o).run P w = .ok (.enter f (c.args.toList.map (ev (zDT a))).toArray) w:=by
   have e:(List.map (ev (zDT a)) c.args.toList).toArray=Array.map (ev (zDT a)) c.args:=by apply Array.ext';simp
   rw[e]
   simp only[execOp,ho,resolve,hc,ev,Deferred.ofValue,Sem.run_bind,Sem.run_pure,Result.andThen_ok,invoke,callFunc,run_program,hf,hname,hbody]
   simp
  rw[<- zMg]at hrun
  have hs:=hsem _ hrun (by simp) (by simp)
  show o.uponIn (Fr ro) m P a next Q ((o.semAt ro a.eval).run P w)
  rw[hs,Oper.uponIn_enter]
  refine⟨λh=>(by cases h),?_⟩
  refine zRU ((hcall w rfl).mono ?_)
  rintro e w' ⟨v,rfl,hs,hk⟩
  exact hn v w' hs hk
 ·rcases hcall with ⟨f,fi,ca,hx,hb,hcall⟩|⟨l,fi,ca,hx,hcall⟩
  ·obtain⟨fn,body,hf,hbody,hname⟩:=zPj hb
   have hrun:(execOp (ev (zDT a)) o).run P w = .ok (.enter f (fi.toList++c.args.toList.map (ev (zDT a))++ca.toList).toArray) w:=by
    have e:(fi.toList++c.args.toList.map (ev (zDT a))++ca.toList).toArray=fi++Array.map (ev (zDT a)) c.args++ca:=by apply Array.ext';simp
    rw[e]
    simp only[execOp,ho,resolve,hc,hx,Deferred.ofValue,Sem.run_bind,Sem.run_pure,Result.andThen_ok,invoke,callFunc,run_program,hf,hname,hbody]
    simp
   rw[<- zMg]at hrun
   have hs:=hsem _ hrun (by simp) (by simp)
   show o.uponIn (Fr ro) m P a next Q ((o.semAt ro a.eval).run P w)
   rw[hs,Oper.uponIn_enter]
   refine⟨λh=>(by cases h),?_⟩
   refine zRU ((hcall w rfl).mono ?_)
   rintro e w' ⟨v,rfl,hs,hk⟩
   exact hn v w' hs hk
  ·obtain⟨f,tmps,assign,body,hy,hr⟩:=hcall w rfl
   have hrun:(execOp (ev (zDT a)) o).run P w = .ok (.round l f tmps assign body) w:=by
    have e:(fi.toList++c.args.toList.map (ev (zDT a))).toArray=fi++Array.map (ev (zDT a)) c.args:=by apply Array.ext';simp
    rw[e]at hy
    simp only[execOp,ho,resolve,hc,hx,Deferred.ofValue,Sem.run_bind,Sem.run_pure,Result.andThen_ok,invoke,hy]
   rw[<- zMg]at hrun
   have hs:=hsem _ hrun (by simp) (by simp)
   show o.uponIn (Fr ro) m P a next Q ((o.semAt ro a.eval).run P w)
   rw[hs,Oper.uponIn_round]
   refine⟨λh=>(by cases h),?_⟩
   have hr':RoundIn (Fr ro) (m-1) P l f tmps assign body w λe w'=>∃ v,e = .returned v/\zJs w w'/\k v w'.heap:=⟨trivial,λc cs _=>hr.2 c cs (λd hd=>by cases hd)⟩
   refine hr'.mono ?_
   rintro e w' ⟨v,rfl,hs,hk⟩
   exact hn v w' hs hk
 ·obtain⟨n,w',hr,hs,hk⟩:=hraw w rfl
  rw[<- zMg]at hr
  have hs':=hsem _ hr (by rintro d w';rcases hk with ⟨v,rfl,hk⟩|⟨rfl,hk⟩<;>simp) (by simp)
  show o.uponIn (Fr ro) m P a next Q ((o.semAt ro a.eval).run P w)
  rw[hs']
  rcases hk with ⟨v,rfl,hk⟩|⟨rfl,hk⟩
  ·exact hn v w' hs hk
  ·exact hn undef w' hs hk
theorem zXV {ro:Option Nat}{m:Nat}{P:Program}{q:Bool}{ops:Array Oper}{n i:Nat}{o:Oper}(hi:ops[i]? = some o)(hok:zXO n o=true){a:Act}{w:World}(hsz:a.tmps.size=n){K:Env->zAw->Prop}{next:Act->World->Prop}{Q:Exit->Act->World->Prop}
  (h:zXU P q ops o (zDT a) w.heap K) (hn:∀ a' w',zJs w w'->a'.tmps.size=n->a'.defers=a.defers->K (zDT a') w'.heap->next a' w'):wpOpIn (Fr ro) m P ops Q i next a w:=by
 unfold wpOpIn
 simp only[hi]
 have hd:∀ t,o.dst=some t->t<a.tmps.size:=λt ht=>by rw[hsz];exact zAej hok t ht
 rcases h with ⟨ha,h⟩|⟨ha,h⟩
 ·rw[zUN ha,if_pos rfl]
  refine zAk5 h λv w' hs hk=>hn _ _ hs (by rw[zY3,hsz]) zTt ?_
  rw[zWw hd];exact hk
 ·rw[zUN ha,if_neg (by simp)]
  refine⟨λ_ _=>trivial,?_⟩
  refine hn _ _ (zJs.rfl' w) (by rw[zY3,hsz]) zTt ?_
  rw[zWw hd];exact h
def zXW (P:Program)(q:Bool)(ops:Array Oper):List Oper->Env->zAw->(Env->zAw->Prop)->Prop
 | [],e,H,K=>K e H
 | o::r,e,H,K=>zXU P q ops o e H λe h=>zXW P q ops r e h K
theorem zXW.mono {P:Program}{q:Bool}{ops:Array Oper}:∀ {l:List Oper} {e:Env} {H:zAw} {K K':Env->zAw->Prop},zXW P q ops l e H K->(∀ e h,K e h->K' e h)->zXW P q ops l e H K'
 | [],_,_,_,_,h,hk=>hk _ _ h
 | _::_,_,_,_,_,h,hk=>zXU.mono h λ_ _ h=>zXW.mono h hk
theorem zUO {ro:Option Nat}{m:Nat}{P:Program}{q:Bool}{ops:Array Oper}{n:Nat}{Q:Exit->Act->World->Prop}{K:Env->zAw->Prop}{w0:World}{df:List Deferred}:∀ (l:List Nat) (os:List Oper),
  os.length=l.length->(∀ (j i:Nat),l[j]? = some i->∃ o,os[j]? = some o/\ops[i]? = some o/\zXO n o=true)->∀ (a:Act) (w:World),a.tmps.size=n->a.defers=df->zJs w0 w ->
  zXW P q ops os (zDT a) w.heap K->(∀ a' w',zJs w0 w'->a'.tmps.size=n->a'.defers=df->K (zDT a') w'.heap->Q .normal a' w')->wpOpsIn (Fr ro) m P ops Q l a w
 | [],os,hl,_,a,w,hsz,hdf,hsm,h,hq=>by
  have:os=[]:=zBk.1 hl
  subst this
  exact hq a w hsm hsz hdf h
 | i::l,os,hl,hos,a,w,hsz,hdf,hsm,h,hq=>by
  obtain⟨o,ho,hi,hok⟩:=hos 0 i rfl
  match os,ho with
  | o'::os',ho =>
   simp only[zC2,zAm]at ho
   subst ho
   rw[wpOpsIn_cons]
   refine zXV hi hok hsz h λa' w' hs hs' hd' hk=>?_
   exact zUO l os' (by simpa using hl) (λj i' hj=>by simpa using hos (j+1) i' (by simpa using hj)) a' w' hs' (hd'.trans hdf) (hsm.trans hs) hk hq
def zAhs (ops:Array Oper)(x y:Nat):Prop:=∃ oy,ops[y]? = some oy/\∃ g∈oy.after,Region.binds .any g=true/\g.on=x
inductive Anc (ops:Array Oper):Nat->zA2
 | one {x y:Nat}:zAhs ops x y->Anc ops x y
 | more {x y z:Nat}:Anc ops x y->zAhs ops y z->Anc ops x z
theorem zUP {ops:Array Oper}{listed:Array Bool}(hcl:∀ i,listed.getD i false=true->∀ x,zAhs ops x i->listed.getD x false=true){i:Nat}(hi:∀ x,zAhs ops x i->listed.getD x false=true){x:Nat}(h:Anc ops x i):listed.getD x false=true:=by
 have key:∀ {x y:Nat},Anc ops x y->listed.getD y false=true->listed.getD x false=true:=by
  intro x y h
  induction h with
  | one h=>exact λhy=>hcl _ hy _ h
  | more _ h2 ih=>exact λhz=>ih (hcl _ hz _ h2)
 cases h with
 | one h=>exact hi _ h
 | more h1 h2=>exact key h1 (hi _ h2)
structure Rel (P:Program)(ops:Array Oper)(rsl:Nat->List Nat)(x y:Nat):Prop where
 fwd:Anc ops x y\/∃ ox oy,ops[x]? = some ox/\ops[y]? = some oy/\zTs P ops ox oy=true /\
  (cls P ox.op=1->cls P oy.op≠0->cls P oy.op≠1->x∈rsl y/\∃ d,ox.dst=some d/\d∉ox.looksAt ops)
 bwd:¬ zAhs ops y x
 stay:∀ ox oy,ops[x]? = some ox->ops[y]? = some oy->cls P ox.op=1->∀ d,oy.dst=some d->d∉ox.looksAt ops/\ox.dst≠some d
def Ob (P:Program)(ops:Array Oper)(rsl:Nat->List Nat)(seen:List Nat)(i:Nat)(e:Env)(h:zAw):Prop :=
 ∀ j,j∈rsl i->j∈seen->∀ oj,ops[j]? = some oj->rc P oj e h
def zQb (P:Program)(ops:Array Oper)(rsl:Nat->List Nat):List Nat->List Nat->Env->zAw->(Env->zAw->Prop)->Prop
 | _,[],e,H,K=>K e H
 | seen,i::l,e,H,K=>match ops[i]? with
  | none=>False
  | some o=>zHy P ops o e H (Ob P ops rsl seen i) λe' h'=>zQb P ops rsl (i::seen) l e' h' K
theorem zQb.less {P:Program}{ops:Array Oper}{rsl:Nat->List Nat}:∀ {l seen seen':List Nat} {e:Env} {H:zAw} {K:Env->zAw->Prop},(∀ k,k∈seen'->k∈seen)->zQb P ops rsl seen l e H K->zQb P ops rsl seen' l e H K
 | [],_,_,_,_,_,_,h=>h
 | i::l,seen,seen',e,H,K,hs,h=>by
  simp only[zQb]at h ⊢
  cases ho:ops[i]? with
  | none=>simp[ho]at h
  | some o =>
   simp only[ho]at h ⊢
   exact zHy.mono h (λe' h' a j hj hm=>a j hj (hs j hm)) λe' h' b=>zQb.less (λk hk=>by
    rcases zAr.1 hk with rfl|hk
    ·simp
    ·simp[hs k hk]) b
theorem zAbH {P:Program}{ops:Array Oper}{j:Oper}{e:Env}{h:zAw}{d:Option Nat}{v:Value}(hd:∀ t,d=some t->t∉j.looksAt ops/\j.dst≠some t):rc P j (e.put d v) h↔rc P j e h:=by
 unfold rc
 cases hj:j.dst with
 | none=>exact Iff.rfl
 | some t =>
  simp only
  rw[zNR (zUM (ops:=ops) λt ht=>(hd t ht).1),zJu (λhe=>(hd t he).2 hj)]
theorem zAjd {P:Program}{ops:Array Oper}{rsl:Nat->List Nat}{i:Nat}{o:Oper}(ho:ops[i]? = some o)(hsel:∀ (x:Nat) (o:Oper),ops[x]? = some o->∀ cs b,o.op ≠ .select cs b)
  (hrs:∀ (x:Nat) (o:Oper),ops[x]? = some o->(cls P o.op=0\/cls P o.op=1)->rsl x=[]) (hrd:∀ (x k:Nat) (ok:Oper),k∈rsl x->ops[k]? = some ok->cls P ok.op=1) {post:List Nat}:∀ {pre seen:List Nat},
  (∀ j∈pre,¬ Anc ops j i)->(∀ j∈pre,Rel P ops rsl j i)->pre.Pairwise (Rel P ops rsl)->(∀ k∈seen,Rel P ops rsl k i/\∀ j∈pre,Rel P ops rsl k j) ->
  ∀ {e:Env} {H:zAw} {K:Env->zAw->Prop},zQb P ops rsl seen (pre++i::post) e H K->zHy P ops o e H (Ob P ops rsl seen i) λe1 h1=>zQb P ops rsl seen (pre++post) e1 h1 K
 | [],seen,_,_,_,_,e,H,K,h=>by
  simp only[zA0,zQb,ho]at h
  exact zHy.mono h (λ_ _ a=>a) λe1 h1 b=>zQb.less (λk hk=>by simp[hk]) b
 | j::pre,seen,hna,hri,hpw,hseen,e,H,K,h=>by
  simp only[zCs,zQb]at h
  cases hj:ops[j]? with
  | none=>simp[hj]at h
  | some oj =>
   simp only[hj]at h
   have hpc:=zCd.1 hpw
   have h1:zHy P ops oj e H (Ob P ops rsl seen j) λe1 h1=>zHy P ops o e1 h1 (Ob P ops rsl (j::seen) i) λe2 h2=>zQb P ops rsl (j::seen) (pre++post) e2 h2 K :=
    zHy.mono h (λ_ _ a=>a) λe1 h1 b=>zAjd ho hsel hrs hrd (λx hx=>hna x (by simp[hx])) (λx hx=>hri x (by simp[hx])) hpc.2 (λk hk=>by
     rcases zAr.1 hk with rfl|hk
     ·exact⟨hri k (by simp),λx hx=>hpc.1 x hx⟩
     ·exact⟨(hseen k hk).1,λx hx=>(hseen k hk).2 x (by simp[hx])⟩) b
   obtain⟨ox,oy,e1,e2,hok,hre⟩:=(hri j (by simp)).fwd.resolve_left (hna j (by simp))
   rw[hj]at e1;cases e1
   rw[ho]at e2;cases e2
   have:=swap (hsel j _ hj) (hsel i _ ho) hok (Ci':=Ob P ops rsl seen i) ?_ ?_ h1
   ·refine zHy.mono this (λ_ _ a=>a) λe1 h1 b=>?_
    simp only[zCs,zQb,hj]
    exact b
   ·intro hi0
    refine⟨λe h k hk=>by rw[hrs i _ ho (.inl hi0)]at hk;simp at hk,λe h v hc k hk hm ok hok'=>?_⟩
    exact(zAbH (ops:=ops) λt ht=>(hseen k hm).1.stay ok o hok' ho (hrd j k ok hk hok') t ht).2 (hc k hk hm ok hok')
   ·intro hi0
    have hj1:cls P oj.op=0\/cls P oj.op=1:=by
     simp only[zTs,zAk]at hok
     rcases Bool.or_eq_true_iff.1 hok.2 with hh|hh
     ·exact absurd (zA6 hh) hi0
     ·exact zAhr.1 hh
    refine⟨λe h k hk=>by rw[hrs j _ hj hj1]at hk;simp at hk,λe h v hc k hk hm ok hok'=>?_,λhj1 hi1=>?_⟩
    ·exact(zAbH (ops:=ops) λt ht=>((hseen k hm).2 j (by simp)).stay ok oj hok' hj (hrd i k ok hk hok') t ht).1 (hc k hk (by simp[hm]) ok hok')
    ·obtain⟨hm,hd⟩:=hre hj1 hi0 hi1
     exact⟨hd,λe h hc=>hc j hm (by simp) oj hj⟩
theorem zAak {ro:Option Nat}{m:Nat}{P:Program}{ops:Array Oper}{rsl:Nat->List Nat}{n:Nat}{Q:Exit->Act->World->Prop}{K:Env->zAw->Prop}{w0:World}{df:List Deferred}(hokall:∀ (i:Nat) (o:Oper),ops[i]? = some o->zXO n o=true)(hirr:∀ (i:Nat) (o:Oper),ops[i]? = some o->¬ ∃ g∈o.after,Region.binds .any g=true/\g.on=i)
  (hin:∀ (i:Nat) (o:Oper),ops[i]? = some o->∀ g∈o.after,Region.binds .any g=true->g.on<ops.size)
  (hrs:∀ (x:Nat) (o:Oper),ops[x]? = some o->(cls P o.op=0\/cls P o.op=1)->rsl x=[]) (hrd:∀ (x k:Nat) (ok:Oper),k∈rsl x->ops[k]? = some ok->cls P ok.op=1):∀ (fuel:Nat) (R:List Nat) (listed:Array Bool) (a:Act) (w:World),
  R.length<=fuel->listed.size=ops.size->(∀ i,listed.getD i false=true->∀ x,zAhs ops x i->listed.getD x false=true)->(∀ i,i∈R↔i<ops.size/\listed.getD i true=false)->R.Pairwise (Rel P ops rsl)->R.Nodup->a.tmps.size=n->a.defers=df->zJs w0 w ->
  zQb P ops rsl [] R (zDT a) w.heap K->(∀ a' w',zJs w0 w'->a'.tmps.size=n->a'.defers=df->K (zDT a') w'.heap->Q .normal a' w')->wpAnyIn (Fr ro) m P .any ops Q fuel listed a w:=by
 have hready:∀ (R:List Nat) (listed:Array Bool),listed.size=ops.size->(∀ i,i∈R↔i<ops.size/\listed.getD i true=false)->R.Pairwise (Rel P ops rsl)->Region.ready .any ops listed=[]->R=[]:=by
  intro R listed hls hR hpw hr
  cases R with
  | nil=>rfl
  | cons x R =>
   exfalso
   have hx:=(hR x).1 (by simp)
   have:x∈Region.ready .any ops listed:=by
    refine mem_ready.2 ⟨hx.2,ops[x],zBr hx.1,λg hg hb=>?_⟩
    have ho:ops[x]? = some ops[x]:=zBr hx.1
    have hlt:=hin x _ ho g hg hb
    cases hl:listed.getD g.on false with
    | true=>rfl
    | false =>
     exfalso
     have hl':listed.getD g.on true=false:=by
      simp only[zBt]at hl ⊢
      rw[zBr (by omega)]at hl ⊢
      simpa using hl
     have hm:g.on∈x::R:=(hR g.on).2 ⟨hlt,hl'⟩
     rcases zAr.1 hm with he|hm
     ·exact hirr x _ ho ⟨g,hg,hb,he⟩
     ·exact(List.rel_of_pairwise_cons hpw hm).bwd ⟨_,ho,g,hg,hb,rfl⟩
   rw[hr]at this
   simp at this
 intro fuel
 induction fuel with
 | zero =>
  intro R listed a w hlen hls hcl hR hpw hnd hsz hdf hsm h hq
  have:R=[]:=zBk.1 (by omega)
  subst this
  refine⟨?_,hq a w hsm hsz hdf h⟩
  cases hr:Region.ready .any ops listed with
  | nil=>rfl
  | cons x l =>
   exfalso
   have hx:x∈Region.ready .any ops listed:=by rw[hr];simp
   obtain⟨h0,o,ho,_⟩:=mem_ready.1 hx
   have:=(hR x).2 ⟨(zBg.1 ho).1,h0⟩
   simp at this
 | succ fuel ih =>
  intro R listed a w hlen hls hcl hR hpw hnd hsz hdf hsm h hq
  refine⟨λhr=>?_,λi hi=>?_⟩
  ·have:=hready R listed hls hR hpw hr
   subst this
   exact hq a w hsm hsz hdf h
  ·obtain⟨h0,o,ho,hall⟩:=mem_ready.1 hi
   have hilt:=(zBg.1 ho).1
   have hiR:i∈R:=(hR i).2 ⟨hilt,h0⟩
   obtain⟨pre,post,rfl⟩:=List.append_of_mem hiR
   have hna:∀ j∈pre,¬ Anc ops j i:=by
    intro j hj hanc
    have hl:listed.getD j false=true:=zUP hcl (λx ⟨oy,hoy,g,hg,hb,hgo⟩=>by
     rw[ho]at hoy;cases hoy
     rw[<- hgo];exact hall g hg hb) hanc
    have hjR:=(hR j).1 (by simp[hj])
    simp only[zBt]at hl
    have:=hjR.2
    simp only[zBt]at this
    rw[zBr (by omega)]at hl this
    simp_all
   have hpa:=List.pairwise_append.1 hpw
   have h:=zAjd ho (λx o hx=>zQ6 (hokall x o hx)) hrs hrd hna (λj hj=>hpa.2.2 j hj i (by simp)) hpa.1 (λk hk=>by simp at hk) h
   refine zXV ho (hokall i o ho) hsz h.step λa' w' hs hs' hd' hk=>?_
   have hnd':=hnd
   rw[zCA]at hnd'
   refine ih (pre++post) (listed.setIfInBounds i true) a' w' ?_ ?_ ?_ ?_ ?_ ?_ hs' (hd'.trans hdf) (hsm.trans hs) hk hq
   ·simp at hlen ⊢;omega
   ·simp[hls]
   ·intro j hj x hx
    by_cases hji:j=i
    ·subst hji
     obtain⟨oy,hoy,g,hg,hb,hgo⟩:=hx
     rw[ho]at hoy;cases hoy
     rw[<- hgo]
     exact getD_set_true (hall g hg hb)
    ·rw[getD_set_ne false (Ne.symm hji)]at hj
     exact getD_set_true (hcl j hj x hx)
   ·intro j
    by_cases hji:j=i
    ·subst hji
     have:j∉pre++post:=by
      intro hm
      rcases zAt.1 hm with hm|hm
      ·exact hnd'.2.2 j hm j (by simp) rfl
      ·exact(zCJ.1 hnd'.2.1).1 hm
     simp only[this,false_iff,not_and]
     intro _
     simp[hls,hilt]
    ·rw[getD_set_ne true (Ne.symm hji),<- hR j]
     simp[hji]
   ·exact hpw.sublist (by simp)
   ·exact hnd.sublist (by simp)
def has:List Nat->Nat->Bool
 | [],_=>false
 | a::l,i=>bif Nat.beq i a then true else has l i
theorem zDB {l:List Nat}{i:Nat}:has l i=true↔i∈l:=by
 induction l with
 | nil=>simp[has]
 | cons a l ih =>
  simp only[has,zAr]
  cases h:Nat.beq i a with
  | true=>simp[zA6 h]
  | false =>
   have:i≠a:=λe=>by subst e;rw[zB2]at h;cases h
   simp[this,ih]
def Cur:Nat->Type
 | 0=>zAw->Prop
 | n+1=>Value->Cur n
def Cur.of:(n:Nat)->(List Value->zAw->Prop)->Cur n
 | 0,F=>F []
 | n+1,F=>λv=>Cur.of n λvs=>F (v::vs)
def Cur.app:(n:Nat)->Cur n->List Value->zAw->Prop
 | 0,k,_=>k
 | n+1,k,[]=>Cur.app n (k undef) []
 | n+1,k,v::vs=>Cur.app n (k v) vs
theorem Cur.app_of:∀ {n:Nat} {F:List Value->zAw->Prop} {vs:List Value} {h:zAw},vs.length=n->(Cur.app n (Cur.of n F) vs h↔F vs h)
 | 0,F,[],h,_=>Iff.rfl
 | n+1,F,v::vs,h,hl=>Cur.app_of (n:=n) (F:=λvs=>F (v::vs)) (by simpa using hl)
inductive zK0 (n:Nat) (body:Cur n->Prop) (rest:Cur n):Prop
 | mk:body rest->zK0 n body rest
theorem zK0.out {n:Nat}{body:Cur n->Prop}{rest:Cur n}:zK0 n body rest->body rest
 | .mk h=>h
theorem zGo {n:Nat}{body:Cur n->Prop}{rest:Cur n}:zK0 n body rest↔body rest:=⟨zK0.out,.mk⟩
def zVw (n:Nat)(body:Cur n->Cur n)(vs:List Value)(H:zAw):Prop :=
 ∃ (I:List Value->zAw->Prop) (μ:List Value->zAw->Nat),I vs H/\∀ vs h,vs.length=n->I vs h->Cur.app n (body (Cur.of n λvs' h'=>I vs' h'/\μ vs' h'<μ vs h)) vs h
def zAbj:List Nat->List Value->Nat->Value->Value
 | l::L,v::vs,i,d=>bif Nat.beq i l then v else zAbj L vs i d
 | _,_,_,d=>d
def mg (_A L:List Nat)(e:Env)(vs:List Value):Env:=λi=>zAbj L vs i (e i)
theorem zAek {L:List Nat}{f:Env}{i:Nat}{d:Value}(h:has L i=true):zAbj L (L.map f) i d=f i:=by
 induction L with
 | nil=>simp[has]at h
 | cons l L ih =>
  simp only[has]at h
  simp only[zAW,zAbj]
  cases hb:Nat.beq i l with
  | true=>simp[zA6 hb]
  | false=>rw[hb]at h;simpa using ih h
theorem zY4 {i:Nat}{d:Value}:∀ {L:List Nat} {vs:List Value},has L i=false->zAbj L vs i d=d
 | [],_,_=>by simp[zAbj]
 | _::_,[],_=>by simp[zAbj]
 | l::L,v::vs,h=>by
  simp only[has]at h
  simp only[zAbj]
  cases hb:Nat.beq i l with
  | true=>rw[hb]at h;simp at h
  | false=>rw[hb]at h;simpa using zY4 (L:=L) (vs:=vs) h
def rm (A D:List Nat):List Nat:=D.filter λi=>!has A i
def both (V A D:List Nat):List Nat:=V.filter λi=>has A i&&has D i
def addD (d:Option Nat)(D:List Nat):List Nat:=match d with|some d=>d::D|none=>D
def zFU (D:List Nat)(e e1:Env):Prop:=∀ i,i∈D->e i=e1 i
theorem zFU.put {D:List Nat}{e e1:Env}{d:Option Nat}{v:Value}(h:zFU D e e1):zFU (addD d D) (e.put d v) (e1.put d v):=by
 intro i hi
 cases d with
 | none=>exact h i hi
 | some d =>
  by_cases hd:i=d
  ·subst hd;rw[zNT,zNT]
  ·rw[zJu (by simpa using λh=>hd h.symm),zJu (by simpa using λh=>hd h.symm)]
   exact h i ((zAr.1 hi).resolve_left hd)
theorem zQ7 {V A L D Da:List Nat}{e e1 e1':Env}(hL:L=both V A Da)(h:zFU D e e1)(hun:∀ i,i∉A->e1' i=e1 i){vs:List Value}(hvs:vs=L.map e1'):zFU (L++rm A D) (mg A L e vs) e1':=by
 intro i hi
 subst hvs
 rcases zAt.1 hi with hi|hi
 ·have hi':=hi
  rw[hL]at hi'
  have hA:has A i=true:=by
   have:=(zAX.1 hi').2
   simp only[zAk]at this
   exact this.1
  exact zAek (zDB.2 hi)
 ·obtain⟨hD,hA⟩:=zAX.1 hi
  have hA:has A i=false:=by simpa using hA
  have hL':has L i=false:=by
   cases hl:has L i with
   | false=>rfl
   | true =>
    have:=zDB.1 hl
    rw[hL]at this
    have:=(zAX.1 this).2
    rw[hA]at this;simp at this
  show zAbj L _ i (e i)=_
  rw[zY4 hL',hun i (λhm=>by rw[zDB.2 hm]at hA;cases hA)]
  exact h i hD
def zXX (D:List Nat):Operand->Bool
 | .tmp t=>has D t
 | _=>true
def zAel (D:List Nat)(o:Oper):Bool:=o.op.operands.toList.all (zXX D)
theorem zNU {D:List Nat}{o:Oper}(h:zAel D o=true){e e1:Env}(ha:zFU D e e1):∀ x∈o.op.operands,ev e x=ev e1 x:=by
 intro x hx
 have:=zAy.1 h x (zBv.2 hx)
 cases x<;>first|rfl|exact ha _ (zDB.1 this)
def zIp:List Oper->List Nat
 | []=>[]
 | o::r=>addD o.dst (zIp r)
def Mre:List (Option Value×Value)->Prop->Prop
 | [],p=>p
 | (a,b)::l,p=>a=some b/\Mre l p
abbrev Item:=Oper×List Oper
def zAkM (e:Env):Option Nat->Value
 | some d=>e d
 | none=>undef
def zVx (P:Program)(e:Env)(h:zAw):List Oper->List (Option Value×Value)
 | []=>[]
 | j::l=>(zQ5 (opR P j.op (ev e) h),zAkM e j.dst)::zVx P e h l
def zY5 (P:Program):List Item->Env->zAw->(Env->zAw->Prop)->Prop
 | [],e,H,K=>K e H
 | (o,rs)::r,e,H,K=>opX P false o (ev e) H λv h=>Mre (zVx P (e.put o.dst v) h rs) (zY5 P r (e.put o.dst v) h K)
def zAem (D:List Nat)(j:Oper):Bool:=zAel D j&&(match j.dst with|some d=>has D d|none=>false)
def zJv:List Item->List Nat->Option (List Nat)
 | [],D=>some D
 | (o,rs)::r,D=>bif zAel D o&&rs.all (zAem (addD o.dst D)) then zJv r (addD o.dst D) else none
theorem zTu {P:Program}{e:Env}{h:zAw}{p:Prop}:∀ {rs:List Oper},Mre (zVx P e h rs) p↔(∀ j∈rs,zQ5 (opR P j.op (ev e) h)=some (zAkM e j.dst))/\p
 | []=>by simp[zVx,Mre]
 | j::rs=>by simp only[zVx,Mre,zTu (rs:=rs),List.forall_mem_cons,and_assoc]
theorem zVy {P:Program}{D:List Nat}{j:Oper}(h:zAem D j=true){e e1:Env}{hp:zAw}(ha:zFU D e e1)(hr:zQ5 (opR P j.op (ev e) hp)=some (zAkM e j.dst)):rc P j e1 hp:=by
 simp only[zAem,zAk]at h
 unfold rc
 cases hd:j.dst with
 | none=>trivial
 | some d =>
  rw[hd]at h hr
  simp only[zAkM]at hr ⊢
  rw[<- zNR (zNU h.1 ha),hr,ha d (zDB.1 h.2)]
def zQ8 (g:Nat×Bool)(o:Oper):Bool:=match o.guard with
 | some (j,b)=>Nat.beq j g.1&&(b == g.2)
 | none=>false
def zEY:List Item->List Oper
 | []=>[]
 | (o,_)::r=>o::zEY r
def zIf (g:Nat×Bool):List Item->List Item×List Item
 | []=>([],[])
 | o::r=>bif zQ8 g o.1 then ((o::(zIf g r).1),(zIf g r).2) else ([],o::r)
theorem zY6 (g:Nat×Bool):∀ l,l=(zIf g l).1++(zIf g l).2
 | []=>rfl
 | o::r=>by
  simp only[zIf]
  cases zQ8 g o.1
  ·rfl
  ·simp only[cond_true,zCs];rw[<- zY6 g r]
theorem zWx (g:Nat×Bool):∀ l,∀ o∈(zIf g l).1,zQ8 g o.1=true
 | [],o,h=>by simp[zIf]at h
 | x::r,o,h=>by
  simp only[zIf]at h
  cases hx:zQ8 g x.1
  ·rw[hx]at h;simp at h
  ·rw[hx]at h
   rcases zAr.1 h with rfl|h
   ·exact hx
   ·exact zWx g r o h
def zAf4 (P:Program)(V:List Nat)(ops:Array Oper):Nat->List Item->Env->zAw->(Env->zAw->Prop)->Prop
 | 0,_,_,_,_=>False
 | _+1,[],e,H,K=>K e H
 | f+1,(o,rs)::rest,e,H,K=>match o.guard with
  | none=>opX P false o (ev e) H λv h=>Mre (zVx P (e.put o.dst v) h rs) (zAf4 P V ops f rest (e.put o.dst v) h K)
  | some g=>match (ops[g.1]?).bind (·.dst) with
   | some t =>
    zK0 (both V (zIp (zEY ((o,rs)::(zIf g rest).1))) V).length
     (λk=>Mif (e t) g.2 (zY5 P ((o,rs)::(zIf g rest).1) e H λe' h=>Cur.app _ k ((both V (zIp (zEY ((o,rs)::(zIf g rest).1))) V).map e') h)
      (Cur.app _ k ((both V (zIp (zEY ((o,rs)::(zIf g rest).1))) V).map λ_=>undef) H))
     (Cur.of _ λvs h=>zAf4 P V ops f (zIf g rest).2 (mg (zIp (zEY ((o,rs)::(zIf g rest).1))) (both V (zIp (zEY ((o,rs)::(zIf g rest).1))) V) e vs) h K)
   | none=>False
def zQ9 (V:List Nat)(ops:Array Oper):Nat->List Item->List Nat->Option (List Nat)
 | 0,_,_=>none
 | _+1,[],D=>some D
 | f+1,(o,rs)::rest,D=>match o.guard with
  | none=>bif zAel D o&&rs.all (zAem (addD o.dst D)) then zQ9 V ops f rest (addD o.dst D) else none
  | some g=>match (ops[g.1]?).bind (·.dst) with
   | some t=>bif has D t && !has (zIp (zEY ((o,rs)::(zIf g rest).1))) t then
     (match zJv ((o,rs)::(zIf g rest).1) D with
     | some _=>zQ9 V ops f (zIf g rest).2 (both V (zIp (zEY ((o,rs)::(zIf g rest).1))) V++rm (zIp (zEY ((o,rs)::(zIf g rest).1))) D)
     | none=>none) else none
   | none=>none
def zMW (P:Program)(ops:Array Oper):List Item->Env->zAw->(Env->zAw->Prop)->Prop
 | [],e,H,K=>K e H
 | (o,rs)::r,e,H,K=>zHy P ops o e H (λe h=>∀ j∈rs,rc P j e h) λe h=>zMW P ops r e h K
theorem zMW.mono {P:Program}{ops:Array Oper}:∀ {l:List Item} {e:Env} {H:zAw} {K K':Env->zAw->Prop},zMW P ops l e H K->(∀ e h,K e h->K' e h)->zMW P ops l e H K'
 | [],_,_,_,_,h,hk=>hk _ _ h
 | (_,_)::_,_,_,_,_,h,hk=>zHy.mono h (λ_ _ a=>a) λ_ _ h=>zMW.mono h hk
theorem zSy {P:Program}{ops:Array Oper}:∀ {l m:List Item} {e:Env} {H:zAw} {K:Env->zAw->Prop},zMW P ops l e H (λe h=>zMW P ops m e h K)->zMW P ops (l++m) e H K
 | [],_,_,_,_,h=>h
 | (_,_)::_,_,_,_,_,h=>zHy.mono h (λ_ _ a=>a) λ_ _ h=>zSy h
theorem zLV {o:Oper}{d:Nat}(h:o.dst=some d):∀ {l:List Oper},o∈l->d∈zIp l
 | x::l,hm=>by
  rcases zAr.1 hm with rfl|hm
  ·simp[zIp,h,addD]
  ·have:=zLV h hm
   simp only[zIp,addD]
   cases x.dst<;>simp[this]
theorem zVz {ops:Array Oper}{g:Nat×Bool}{t:Nat}(ht:(ops[g.1]?).bind (·.dst)=some t){o:Oper}(hsg:zQ8 g o=true){e1:Env}{b:Bool}(het:e1 t = .bool b):act ops o e1=some (b == g.2):=by
 unfold zQ8 at hsg
 unfold act
 cases hg:o.guard with
 | none=>simp[hg]at hsg
 | some g' =>
  obtain⟨j,b⟩:=g'
  rw[hg]at hsg
  simp only[zAk,beq_iff_eq]at hsg
  obtain⟨h1,h2⟩:=hsg
  have hj:j=g.1:=zA6 h1
  subst hj h2
  simp[ht,het]
theorem zWy {ops:Array Oper}{g:Nat×Bool}{t:Nat}(ht:(ops[g.1]?).bind (·.dst)=some t){o:Oper}(hsg:zQ8 g o=true){e1:Env}(het:e1 t ≠ .bool g.2):act ops o e1=some false:=by
 by_cases hb:∃ b,e1 t = .bool b
 ·obtain⟨b,hb⟩:=hb
  rw[zVz ht hsg hb]
  have:b≠g.2:=λe=>het (e ▸ hb)
  cases b<;>cases hg:g.2<;>simp_all
 ·unfold zQ8 at hsg
  unfold act
  cases hg:o.guard with
  | none=>simp[hg]at hsg
  | some g' =>
   obtain⟨j,b⟩:=g'
   rw[hg]at hsg
   simp only[zAk,beq_iff_eq]at hsg
   obtain⟨h1,h2⟩:=hsg
   have hj:j=g.1:=zA6 h1
   subst hj h2
   simp only[ht]
   cases hv:e1 t<;>first
    | rfl
    | exact absurd ⟨_,hv⟩ hb
theorem zUQ {P:Program}{ops:Array Oper}{g:Nat×Bool}{t:Nat}(ht:(ops[g.1]?).bind (·.dst)=some t):∀ (l:List Item) (D D1:List Nat) (e e1:Env) (H:zAw) (K:Env->zAw->Prop),
  (∀ x∈l,zQ8 g x.1=true/\(∀ cs b,x.1.op ≠ .select cs b))->t∉zIp (zEY l)->zJv l D=some D1->zFU D e e1->e1 t = .bool g.2->zY5 P l e H K ->
  zMW P ops l e1 H λe1' h=>∃ e',K e' h/\zFU D1 e' e1'/\∀ i,i∉zIp (zEY l)->e1' i=e1 i
 | [],D,D1,e,e1,H,K,_,_,hc,ha,_,h=>by
  simp only[zJv,zAm]at hc
  subst hc
  exact⟨e,h,ha,λ_ _=>rfl⟩
 | (o,rs)::l,D,D1,e,e1,H,K,hm,hnt,hc,ha,het,h=>by
  simp only[zJv]at hc
  cases hok:(zAel D o&&rs.all (zAem (addD o.dst D))) with
  | false=>rw[hok]at hc;cases hc
  | true =>
   rw[hok]at hc
   simp only[zAk]at hok
   obtain⟨hok,hre⟩:=hok
   obtain⟨hsg,hsel⟩:=hm (o,rs) (by simp)
   have hdt:o.dst≠some t:=λhd=>hnt (zLV hd (by simp[zEY]))
   have hact:act ops o e1=some true:=by rw[zVz ht hsg het];simp
   refine .inl ⟨hact,?_⟩
   refine zNS hsel (zNU hok ha) (zGP h λv h' hh=>?_)
   obtain⟨hr,hh⟩:=zTu.1 hh
   have hnt':t∉zIp (zEY l):=λhm=>hnt (by
    simp only[zEY,zIp,addD];cases o.dst<;>simp[hm])
   refine⟨λj hj=>zVy (zAy.1 hre j hj) ha.put (hr j hj),?_⟩
   refine zMW.mono (zUQ ht l (addD o.dst D) D1 (e.put o.dst v) (e1.put o.dst v) h' K (λo ho=>hm o (by simp[ho])) hnt' hc ha.put (by rw[zJu hdt];exact het) hh) ?_
   rintro e1' h ⟨e',hk,hag,hun⟩
   refine⟨e',hk,hag,λi hi=>?_⟩
   have hi':i∉zIp (zEY l):=λhm=>hi (by simp only[zEY,zIp,addD];cases o.dst<;>simp[hm])
   rw[hun i hi',zJu (λhd=>hi (zLV hd (by simp[zEY])))]
theorem zWz {P:Program}{ops:Array Oper}{g:Nat×Bool}{t:Nat}(ht:(ops[g.1]?).bind (·.dst)=some t):∀ (l:List Item) (e1:Env) (H:zAw) (K:Env->zAw->Prop),
  (∀ x∈l,zQ8 g x.1=true)->t∉zIp (zEY l)->e1 t ≠ .bool g.2->(∀ e1':Env,(∀ i,i∈zIp (zEY l)->e1' i=undef)->(∀ i,i∉zIp (zEY l)->e1' i=e1 i)->K e1' H)->zMW P ops l e1 H K
 | [],e1,H,K,_,_,_,h=>h e1 (λi hi=>by simp[zEY,zIp]at hi) (λ_ _=>rfl)
 | (o,rs)::l,e1,H,K,hm,hnt,het,h=>by
  have hdt:o.dst≠some t:=λhd=>hnt (zLV hd (by simp[zEY]))
  have hsg:=hm (o,rs) (by simp)
  have hact:act ops o e1=some false:=zWy ht hsg het
  refine .inr ⟨hact,?_⟩
  have hnt':t∉zIp (zEY l):=λhm=>hnt (by simp only[zEY,zIp,addD];cases o.dst<;>simp[hm])
  refine zWz ht l (e1.put o.dst undef) H K (λo ho=>hm o (by simp[ho])) hnt' (by rw[zJu hdt];exact het) λe1' h1 h2=>h e1' (λi hi=>?_) (λi hi=>?_)
  ·by_cases hl:i∈zIp (zEY l)
   ·exact h1 i hl
   ·rw[h2 i hl]
    have:o.dst=some i:=by
     simp only[zEY,zIp,addD]at hi
     cases hd:o.dst with
     | none=>rw[hd]at hi;exact absurd hi hl
     | some d =>
      rw[hd]at hi
      rcases zAr.1 hi with rfl|hi
      ·rfl
      ·exact absurd hi hl
    rw[this,zNT]
  ·have hi':i∉zIp (zEY l):=λhm=>hi (by simp only[zEY,zIp,addD];cases o.dst<;>simp[hm])
   rw[h2 i hi',zJu (λhd=>hi (zLV hd (by simp[zEY])))]
theorem zRa:∀ {l:List Item} {D D1:List Nat},zJv l D=some D1->∀ i,i∈zIp (zEY l)\/i∈D->i∈D1
 | [],D,D1,h,i,hi=>by
  simp only[zJv,zAm]at h
  subst h
  rcases hi with hi|hi
  ·simp[zEY,zIp]at hi
  ·exact hi
 | (o,rs)::l,D,D1,h,i,hi=>by
  simp only[zJv]at h
  cases hok:(zAel D o&&rs.all (zAem (addD o.dst D))) with
  | false=>rw[hok]at h;cases h
  | true =>
   rw[hok]at h
   refine zRa h i ?_
   simp only[zEY,zIp,addD]at hi ⊢
   cases hd:o.dst with
   | none=>rw[hd]at hi;exact hi
   | some d =>
    rw[hd]at hi
    rcases hi with hi|hi
    ·rcases zAr.1 hi with rfl|hi
     ·exact .inr (by simp)
     ·exact .inl hi
    ·exact .inr (by simp[hi])
theorem zRb {P:Program}{V:List Nat}{ops:Array Oper}:∀ (f:Nat) (l:List Item) (D D':List Nat) (e e1:Env) (H:zAw) (K:Env->zAw->Prop),(∀ x∈l,∀ cs b,x.1.op ≠ .select cs b) ->
  zQ9 V ops f l D=some D'->zFU D e e1->zAf4 P V ops f l e H K->zMW P ops l e1 H λe1' h=>∃ e',K e' h/\zFU D' e' e1'
 | 0,_,_,_,_,_,_,_,_,hc,_,_=>by simp[zQ9]at hc
 | f+1,[],D,D',e,e1,H,K,_,hc,ha,h=>by
  simp only[zQ9,zAm]at hc
  subst hc
  exact⟨e,h,ha⟩
 | f+1,(o,rs)::rest,D,D',e,e1,H,K,hsel,hc,ha,h=>by
  simp only[zQ9]at hc
  simp only[zAf4]at h
  cases hg:o.guard with
  | none =>
   simp only[hg]at hc h
   cases hok:(zAel D o&&rs.all (zAem (addD o.dst D))) with
   | false=>rw[hok]at hc;cases hc
   | true =>
    rw[hok]at hc
    simp only[zAk]at hok
    obtain⟨hok,hre⟩:=hok
    refine .inl ⟨by simp[act,hg],?_⟩
    refine zNS (hsel (o,rs) (by simp)) (zNU hok ha) (zGP h λv h' hh=>?_)
    obtain⟨hr,hh⟩:=zTu.1 hh
    exact⟨λj hj=>zVy (zAy.1 hre j hj) ha.put (hr j hj),zRb f rest (addD o.dst D) D' _ _ h' K (λo ho=>hsel o (by simp[ho])) hc ha.put hh⟩
  | some g =>
   simp only[hg]at hc h
   cases ht:(ops[g.1]?).bind (·.dst) with
   | none=>simp[ht]at hc
   | some t =>
    simp only[ht]at hc h
    generalize hG:(o,rs)::(zIf g rest).1=G at hc h
    have hsplit:(o,rs)::rest=G++(zIf g rest).2:=by
     rw[<- hG,zCs,<- zY6 g rest]
    have hmG:∀ x∈G,zQ8 g x.1=true:=by
     intro x hx
     rw[<- hG]at hx
     rcases zAr.1 hx with rfl|hx
     ·simp[zQ8,hg]
     ·exact zWx g rest x hx
    cases hck:(has D t && !has (zIp (zEY G)) t) with
    | false=>rw[hck]at hc;cases hc
    | true =>
     rw[hck]at hc
     simp only[zAk,zBz]at hck
     obtain⟨hDt,hAt⟩:=hck
     have hnt:t∉zIp (zEY G):=λhm=>by rw[zDB.2 hm]at hAt;cases hAt
     cases hcp:zJv G D with
     | none=>simp[hcp]at hc
     | some D1 =>
      simp only[hcp,cond_true]at hc
      have hrest:∀ x∈(zIf g rest).2,∀ cs b,x.1.op ≠ .select cs b:=λx hx=>hsel x (by rw[hsplit];simp[hx])
      rw[hsplit]
      refine zSy ?_
      have idle:e1 t ≠ .bool g.2->Cur.app (both V (zIp (zEY G)) V).length (Cur.of (both V (zIp (zEY G)) V).length λvs h=>zAf4 P V ops f (zIf g rest).2 (mg (zIp (zEY G)) (both V (zIp (zEY G)) V) e vs) h K) ((both V (zIp (zEY G)) V).map λ_=>undef) H ->
        zMW P ops G e1 H λe h=>zMW P ops (zIf g rest).2 e h λe1' h=>∃ e',K e' h/\zFU D' e' e1':=λhne hk=>by
       refine zWz ht G e1 H _ hmG hnt hne λe1' h1 h2=>?_
       rw[Cur.app_of (by simp)]at hk
       refine zRb f _ _ D' _ _ H K hrest hc ?_ hk
       refine zQ7 rfl ha h2 ?_
       refine zBS λi hi=>?_
       have:=(zAX.1 hi).2
       simp only[zAk]at this
       exact(h1 i (zDB.1 this.1)).symm
      rcases h with ⟨b,heb,hyes,hno⟩|⟨hnb,hno⟩
      ·have het:e1 t = .bool b:=by rw[<- ha t (zDB.1 hDt)];exact heb
       by_cases hb:b=g.2
       ·subst hb
        refine zMW.mono (zUQ ht G D D1 e e1 H _ (λx hx=>⟨hmG x hx,hsel x (by rw[hsplit];simp[hx])⟩) hnt hcp ha het (hyes rfl)) ?_
        rintro e1' h' ⟨e',hk,hag,hun⟩
        rw[Cur.app_of (by simp)]at hk
        refine zRb f _ _ D' _ _ h' K hrest hc ?_ hk
        refine zQ7 rfl ha hun ?_
        refine zBS λi hi=>?_
        have:=(zAX.1 hi).2
        simp only[zAk]at this
        exact hag i (zRa hcp i (.inl (zDB.1 this.1)))
       ·have hb':b = !g.2:=by cases b<;>cases hq:g.2<;>simp_all
        exact idle (by rw[het];intro he;cases he;exact hb rfl) (hno hb')
      ·exact idle (by rw[<- ha t (zDB.1 hDt)];exact hnb _) hno
def zIV (ops:Array Oper)(rem:List Nat)(i:Nat):Bool:=match ops[i]? with
 | some o=>o.after.toList.all λg=>!(Region.binds .any g&&has rem g.on)
 | none=>false
def zVA (p:Nat->Bool):List Nat->Option Nat
 | []=>none
 | a::l=>bif p a then some a else zVA p l
def zXY (P:Program)(ops:Array Oper)(i:Nat):Bool:=match ops[i]? with
 | some o=>Nat.ble (cls P o.op) 1
 | none=>false
def zAht (P:Program)(ops:Array Oper):Nat->List Nat->List Nat
 | 0,_=>[]
 | f+1,rem=>match zVA (λi=>zIV ops rem i&&zXY P ops i) rem with
  | some i=>i::zAht P ops f (rem.filter λj=>!Nat.beq i j)
  | none=>match zVA (zIV ops rem) rem with
   | some i=>i::zAht P ops f (rem.filter λj=>!Nat.beq i j)
   | none=>[]
def uni:List Nat->List Nat->List Nat
 | [],m=>m
 | a::l,m=>bif has m a then uni l m else uni l (a::m)
def zAbI (o:Oper):List Nat:=o.after.toList.filterMap λg=>bif Region.binds .any g then some g.on else none
def zAk6 (acc:List (List Nat)):List Oper->List (List Nat)
 | []=>acc
 | o::l=>zAk6 (acc++[(zAbI o).foldl (λm j=>uni (acc.getD j []) m) (zAbI o)]) l
def zAkN (ops:Array Oper):List (List Nat):=zAk6 [] ops.toList
def zAbJ (P:Program)(ops:Array Oper)(bef:List Nat)(i:Nat):List Nat:=match ops[i]? with
 | some o=>bif Nat.ble (cls P o.op) 1 then [] else bef.filter λj=>match ops[j]? with
  | some oj=>Nat.beq (cls P oj.op) 1 && !has ((zAkN ops).getD i []) j
  | none=>false
 | none=>[]
def zXZ (P:Program)(ops:Array Oper):List Nat->List Nat->List (Nat×List Nat)
 | _,[]=>[]
 | bef,i::l=>(i,zAbJ P ops bef i)::zXZ P ops (i::bef) l
def lk:List (Nat×List Nat)->Nat->List Nat
 | [],_=>[]
 | (j,r)::l,i=>bif Nat.beq i j then r else lk l i
def zWA (o:Oper)(l:List Nat):Bool:=match o.dst with
 | some d=>has l d
 | none=>false
def zAkO (P:Program)(ops:Array Oper)(tab:List (Nat×List Nat))(x y:Nat):Bool:=match ops[x]?,ops[y]? with
 | some ox,some oy =>
  (has ((zAkN ops).getD y []) x || (zTs P ops ox oy&&(!(Nat.beq (cls P ox.op) 1) || Nat.ble (cls P oy.op) 1 || (has (lk tab y) x&&ox.dst.isSome && !zWA ox (ox.looksAt ops))))) &&
  !(oy.after.toList.isEmpty&&false) && !(ox.after.toList.any λg=>Region.binds .any g&&Nat.beq g.on y) &&
  (!(Nat.beq (cls P ox.op) 1) || (!zWA oy (ox.looksAt ops) && !zWA oy ox.dst.toList))
 | _,_=>false
def pwB (r:Nat->Nat->Bool):List Nat->Bool
 | []=>true
 | x::l=>l.all (r x)&&pwB r l
def ndB:List Nat->Bool
 | []=>true
 | x::l=>!has l x&&ndB l
def zAen (n:Nat)(ops:Array Oper):Bool:=(List.range ops.size).all λi=>match ops[i]? with
 | some o=>zXO n o&&o.after.toList.all λg=>!(Region.binds .any g) || (!Nat.beq g.on i&&Nat.ble (g.on+1) ops.size)
 | none=>false
def zAeo (P:Program)(ops:Array Oper):List Nat:=zAht P ops ops.size (List.range ops.size)
def zAf5 (P:Program)(ops:Array Oper):List (Nat×List Nat):=zXZ P ops [] (zAeo P ops)
def zAbK (P:Program)(n:Nat)(ops:Array Oper)(ord:List Nat):Bool :=
 P.follows .mixedOrders&&zAen n ops&&ndB ord&&ord.all (λi=>Nat.ble (i+1) ops.size)&&(List.range ops.size).all (has ord)&&pwB (zAkO P ops (zAf5 P ops)) ord
def zSz (ops:Array Oper):List (Nat×List Nat)->List Item
 | []=>[]
 | (i,rs)::l=>match ops[i]? with
  | some o=>(o,rs.filterMap (ops[·]?))::zSz ops l
  | none=>zSz ops l
def zKq:List Oper->List Item
 | []=>[]
 | o::l=>(o,[])::zKq l
def zSA (P:Program)(ops:Array Oper)(draw:Bool):List Item:=bif draw then zSz ops (zAf5 P ops) else zKq ops.toList
theorem zY7 {r:Nat->Nat->Bool}:∀ {l:List Nat},pwB r l=true->l.Pairwise λa b=>r a b=true
 | [],_ => .nil
 | x::l,h=>by
  simp only[pwB,zAk]at h
  exact .cons (λy hy=>zAy.1 h.1 y hy) (zY7 h.2)
theorem zS5:∀ {l:List Nat},ndB l=true->l.Nodup
 | [],_ => .nil
 | x::l,h=>by
  simp only[ndB,zAk,zBz]at h
  exact zCJ.2 ⟨λhm=>(by rw[zDB.2 hm]at h;cases h.1),zS5 h.2⟩
theorem zAbL {l m:List Nat}{x:Nat}:x∈uni l m->x∈l\/x∈m:=by
 induction l generalizing m with
 | nil=>exact .inr
 | cons a l ih =>
  simp only[uni]
  cases has m a with
  | true=>intro h;rcases ih h with h|h<;>simp[h]
  | false=>intro h;rcases ih h with h|h<;>simp_all;rcases h with h|h<;>simp[h]
theorem zWB {o:Oper}{x:Nat}(h:x∈zAbI o):∃ g∈o.after,Region.binds .any g=true/\g.on=x:=by
 obtain⟨g,hg,hx⟩:=List.mem_filterMap.1 h
 cases hb:Region.binds .any g with
 | false=>rw[hb]at hx;cases hx
 | true=>rw[hb]at hx;cases hx;exact⟨g,zBv.1 hg,hb,rfl⟩
theorem zY8 {acc:List (List Nat)}{x:Nat}:∀ {l m:List Nat},x∈l.foldl (λm j=>uni (acc.getD j []) m) m->x∈m\/∃ j∈l,x∈acc.getD j []
 | [],m,h => .inl h
 | j::l,m,h=>by
  rcases zY8 (l:=l) h with h|⟨j',hj,h⟩
  ·rcases zAbL h with h|h
   ·exact .inr ⟨j,by simp,h⟩
   ·exact .inl h
  ·exact .inr ⟨j',by simp[hj],h⟩
theorem zWC {ops:Array Oper}:∀ (l:List Oper) (acc:List (List Nat)),(∀ j o,l[j]? = some o->ops[acc.length+j]? = some o)->(∀ y x,x∈acc.getD y []->Anc ops x y)->∀ y x,x∈(zAk6 acc l).getD y []->Anc ops x y
 | [],acc,_,h,y,x,hx=>h y x hx
 | o::l,acc,hl,h,y,x,hx=>by
  refine zWC l (acc++[(zAbI o).foldl (λm j=>uni (acc.getD j []) m) (zAbI o)]) (λj o' ho'=>?_) (λy x hx=>?_) y x hx
  ·have:=hl (j+1) o' (by simpa using ho')
   rw[zAq]
   simp only[zAQ,List.length_nil]
   rw[show acc.length+(0+1)+j=acc.length+(j+1) by omega]
   exact this
  ·rw[List.getD_eq_getElem?_getD,List.getElem?_append]at hx
   split at hx
   ·exact h y x (by rw[List.getD_eq_getElem?_getD];exact hx)
   ·by_cases hy:y=acc.length
    ·subst hy
     simp only[Nat.sub_self,zC2,Option.getD_some]at hx
     have ho:ops[acc.length]? = some o:=by simpa using hl 0 o (by simp)
     rcases zY8 hx with hx|⟨j,hj,hx⟩
     ·exact .one ⟨o,ho,zWB hx⟩
     ·exact .more (h j x hx) ⟨o,ho,zWB hj⟩
    ·rename_i hlt
     rw[zDe (by simp;omega)]at hx
     simp at hx
theorem zWD {ops:Array Oper}{x y:Nat}(h:has ((zAkN ops).getD y []) x=true):Anc ops x y :=
 zWC ops.toList [] (λj o ho=>by simpa using ho) (λy x hx=>by simp at hx) y x (zDB.1 h)
theorem zAbM {o:Oper}{x:Nat}:(o.after.toList.any λg=>Region.binds .any g&&Nat.beq g.on x)=true↔∃ g∈o.after,Region.binds .any g=true/\g.on=x:=by
 simp only[zBM,zAk]
 constructor
 ·rintro⟨g,hg,hb,hx⟩;exact⟨g,zBv.1 hg,hb,zA6 hx⟩
 ·rintro⟨g,hg,hb,rfl⟩;exact⟨g,zBv.2 hg,hb,zB2 _⟩
theorem zKr {o:Oper}{l:List Nat}(h:zWA o l=false){d:Nat}(hd:o.dst=some d):d∉l:=by
 intro hm
 simp only[zWA,hd]at h
 rw[zDB.2 hm]at h
 cases h
theorem zAbN {P:Program}{ops:Array Oper}{tab:List (Nat×List Nat)}{x y:Nat}(h:zAkO P ops tab x y=true):Rel P ops (lk tab) x y:=by
 unfold zAkO at h
 cases hx:ops[x]? with
 | none=>simp[hx]at h
 | some ox =>
  cases hy:ops[y]? with
  | none=>simp[hx,hy]at h
  | some oy =>
   simp only[hx,hy,zAk,zB4,zBz]at h
   obtain⟨⟨⟨h1,_⟩,h2⟩,h3⟩:=h
   refine⟨?_,?_,?_⟩
   ·rcases h1 with h1|⟨h1,h4⟩
    ·exact .inl (zWD h1)
    ·refine .inr ⟨ox,oy,hx,hy,h1,λc1 c0 c2=>?_⟩
     rcases h4 with (h4|h4)|⟨⟨h4,h5⟩,h6⟩
     ·rw[c1]at h4;cases h4
     ·rcases zAhr.1 h4 with h4|h4
      ·exact absurd h4 c0
      ·exact absurd h4 c2
     ·obtain⟨d,hd⟩:=zB6.1 h5
      exact⟨zDB.1 h4,d,hd,zKr h6 hd⟩
   ·rintro⟨ox',hox',g,hg,hb,hgo⟩
    rw[hx]at hox';cases hox'
    rw[zAbM.2 ⟨g,hg,hb,hgo⟩]at h2
    cases h2
   ·intro ox' oy' hx' hy' c1 d hd
    rw[hx]at hx';cases hx'
    rw[hy]at hy';cases hy'
    rcases h3 with h3|⟨h3,h4⟩
    ·rw[c1]at h3;cases h3
    ·refine⟨zKr h3 hd,λhe=>?_⟩
     exact zKr h4 hd (by rw[he];simp)
theorem zAf6 {tab:List (Nat×List Nat)}{i k:Nat}(h:k∈lk tab i):∃ r,(i,r)∈tab/\k∈r:=by
 induction tab with
 | nil=>simp[lk]at h
 | cons p tab ih =>
  obtain⟨j,r⟩:=p
  simp only[lk]at h
  cases hb:Nat.beq i j with
  | true=>rw[hb]at h;have:=zA6 hb;subst this;exact⟨r,by simp,h⟩
  | false=>rw[hb]at h;obtain⟨r',h1,h2⟩:=ih h;exact⟨r',by simp[h1],h2⟩
theorem zTv {P:Program}{ops:Array Oper}{i:Nat}{r:List Nat}:∀ {l bef:List Nat},(i,r)∈zXZ P ops bef l->∃ b,r=zAbJ P ops b i
 | [],_,h=>by simp[zXZ]at h
 | x::l,bef,h=>by
  simp only[zXZ,zAr,Prod.mk.injEq]at h
  rcases h with ⟨rfl,rfl⟩|h
  ·exact⟨bef,rfl⟩
  ·exact zTv h
theorem zWE {P:Program}{ops:Array Oper}:∀ {l bef:List Nat},(zXZ P ops bef l).map (·.1)=l
 | [],_=>rfl
 | x::l,bef=>by simp[zXZ,zWE (l:=l)]
theorem zWF:∀ {tab:List (Nat×List Nat)} {i:Nat} {r:List Nat},(tab.map (·.1)).Nodup->(i,r)∈tab->lk tab i=r
 | (j,r')::tab,i,r,hn,h=>by
  simp only[zAW,zCJ]at hn
  simp only[lk]
  rcases zAr.1 h with h|h
  ·cases h;rw[zB2];rfl
  ·have hne:Nat.beq i j=false:=by
    cases hb:Nat.beq i j with
    | false=>rfl
    | true=>exact absurd (zAo.2 ⟨(i,r),h,zA6 hb⟩) hn.1
   rw[hne]
   exact zWF hn.2 h
theorem zTw {P:Program}{ops:Array Oper}{tab0:List (Nat×List Nat)}:∀ {tab:List (Nat×List Nat)} {seen:List Nat} {e:Env} {H:zAw} {K:Env->zAw->Prop},(∀ i r,(i,r)∈tab->lk tab0 i=r/\i<ops.size) ->
  zMW P ops (zSz ops tab) e H K->zQb P ops (lk tab0) seen (tab.map (·.1)) e H K
 | [],_,_,_,_,_,h=>h
 | (i,r)::tab,seen,e,H,K,ht,h=>by
  obtain⟨h1,hlt⟩:=ht i r (by simp)
  have ho:ops[i]? = some ops[i]:=zBr hlt
  simp only[zSz,ho]at h
  simp only[zAW,zQb,ho]
  refine zHy.mono h (λe h hr j hj _ oj hoj=>hr oj ?_) λe h hh=>zTw (λi r hm=>ht i r (by simp[hm])) hh
  rw[h1]at hj
  exact List.mem_filterMap.2 ⟨j,hj,hoj⟩
theorem zTx {P:Program}{ops:Array Oper}:∀ {l:List Oper} {e:Env} {H:zAw} {K:Env->zAw->Prop},zMW P ops (zKq l) e H K->zXW P false ops l e H K
 | [],_,_,_,h=>h
 | o::l,e,H,K,h=>(zHy.step h).mono λe h hh=>zTx hh
theorem zRV {P:Program}{ops:Array Oper}:∀ {l:List Item} {e:Env} {H:zAw} {K:Env->zAw->Prop},zMW P ops l e H K->zMW P ops l e H λe' h=>K e' h/\∀ i,i∉zIp (zEY l)->e' i=e i
 | [],e,H,K,h=>⟨h,λ_ _=>rfl⟩
 | (o,rs)::l,e,H,K,h=>by
  have step:∀ v h',zMW P ops l (e.put o.dst v) h' K->zMW P ops l (e.put o.dst v) h' λe' h=>K e' h/\∀ i,i∉zIp (zEY ((o,rs)::l))->e' i=e i:=λv h' hh =>
   zMW.mono (zRV hh) λe' h'' hk=>⟨hk.1,λi hi=>by
    have hi':i∉zIp (zEY l):=λhm=>hi (by simp only[zEY,zIp,addD];cases o.dst<;>simp[hm])
    rw[hk.2 i hi',zJu (λhd=>hi (zLV hd (by simp[zEY])))]⟩
  rcases h with ⟨a,h⟩|⟨a,h⟩
  ·exact .inl ⟨a,zGP h λv h' hh=>⟨hh.1,step v h' hh.2⟩⟩
  ·exact .inr ⟨a,step undef H h⟩
theorem zAep {l m:List Oper}(h:∀ o∈l,o∈m){i:Nat}(hi:i∈zIp l):i∈zIp m:=by
 induction l with
 | nil=>simp[zIp]at hi
 | cons o l ih =>
  simp only[zIp,addD]at hi
  cases hd:o.dst with
  | none=>rw[hd]at hi;exact ih (λo ho=>h o (by simp[ho])) hi
  | some d =>
   rw[hd]at hi
   rcases zAr.1 hi with rfl|hi
   ·exact zLV hd (h o (by simp))
   ·exact ih (λo ho=>h o (by simp[ho])) hi
theorem zWG:∀ {l:List Oper},zEY (zKq l)=l
 | []=>rfl
 | o::l=>by simp[zKq,zEY,zWG (l:=l)]
theorem zS6 {ops:Array Oper}:∀ {tab:List (Nat×List Nat)} {x:Item},x∈zSz ops tab->∃ i:Nat,ops[i]? = some x.1
 | [],x,h=>by simp[zSz]at h
 | (i,r)::tab,x,h=>by
  simp only[zSz]at h
  cases ho:ops[i]? with
  | none=>rw[ho]at h;exact zS6 h
  | some o =>
   rw[ho]at h
   rcases zAr.1 h with rfl|h
   ·exact⟨i,ho⟩
   ·exact zS6 h
theorem zUR {o:Oper}:∀ {l:List Item},o∈zEY l->∃ x∈l,x.1=o
 | (o',rs)::l,h=>by
  rcases zAr.1 h with rfl|h
  ·exact⟨(o,rs),by simp,rfl⟩
  ·obtain⟨x,hx,e⟩:=zUR h;exact⟨x,by simp[hx],e⟩
theorem zWH {x:Item}:∀ {l:List Oper},x∈zKq l->x.1∈l
 | o::l,h=>by
  rcases zAr.1 h with rfl|h
  ·simp
  ·simp[zWH h]
inductive Tr where
 | done
 | stop
 | lt (i:Nat) (t:Tr)
 | hv (i:Nat) (rs:List Nat) (t more:Tr)
def del (i:Nat)(l:List Nat):List Nat:=l.filter λj=>!Nat.beq i j
def alts (g:Nat->Tr->Tr):List Nat->Tr
 | [] => .stop
 | i::l=>g i (alts g l)
def zAbO (P:Program)(ops:Array Oper):Nat->List Nat->List Nat->Tr
 | 0,_,_ => .done
 | f+1,bef,rem=>match zVA (λi=>zIV ops rem i&&zXY P ops i) rem with
  | some i => .lt i (zAbO P ops f (i::bef) (del i rem))
  | none=>match rem with
   | [] => .done
   | _::_=>alts (λi more => .hv i (zAbJ P ops bef i) (zAbO P ops f (i::bef) (del i rem)) more) (rem.filter (zIV ops rem))
def zAhu (P:Program)(ops:Array Oper)(rs:List Nat)(i j:Nat):Bool:=match ops[j]?,ops[i]? with
 | some oj,some oi =>
  (!(Nat.ble (cls P oj.op) 1) || has ((zAkN ops).getD i []) j || (zTs P ops oj oi&&(!(Nat.beq (cls P oj.op) 1) || Nat.ble (cls P oi.op) 1 || (has rs j&&oj.dst.isSome && !zWA oj (oj.looksAt ops))))) &&
  (!(Nat.beq (cls P oj.op) 1) || (!zWA oi (oj.looksAt ops) && !zWA oi oj.dst.toList))
 | _,_=>false
def zX0:Tr->Nat->Bool
 | .hv i _ _ more,y=>Nat.beq i y || zX0 more y
 | _,_=>false
def zAbP (P:Program)(ops:Array Oper)(k:Nat):Bool:=match ops[k]? with
 | some o=>Nat.beq (cls P o.op) 1
 | none=>false
def wfT (P:Program)(ops:Array Oper):Tr->List Nat->List Nat->Bool->Bool
 | .done,rem,_,top=>top&&rem.isEmpty
 | .stop,_,_,top=>!top
 | .lt i t,rem,bef,top=>top&&(has rem i&&(zIV ops rem i&&(zXY P ops i&&(bef.all (zAhu P ops [] i)&&wfT P ops t (del i rem) (i::bef) true))))
 | .hv i rs t more,rem,bef,top=>(!top || rem.all λy=>!zIV ops rem y || zX0 (.hv i rs t more) y)&&(has rem i&&(zIV ops rem i&&(!zXY P ops i&&(bef.all (zAhu P ops rs i) &&
   (rs.all (zAbP P ops)&&(wfT P ops t (del i rem) (i::bef) true&&wfT P ops more rem bef false))))))
def zLW (P:Program)(ops:Array Oper):List Nat->Tr->Env->zAw->(Env->zAw->Prop)->Prop
 | _,.done,e,H,K=>K e H
 | _,.stop,_,_,_=>True
 | seen,.lt i t,e,H,K=>match ops[i]? with
  | none=>False
  | some o=>zHy P ops o e H (Ob P ops (λ_=>[]) seen i) λe' h'=>zLW P ops (i::seen) t e' h' K
 | seen,.hv i rs t more,e,H,K=>(match ops[i]? with
  | none=>False
  | some o=>zHy P ops o e H (Ob P ops (λ_=>rs) seen i) λe' h'=>zLW P ops (i::seen) t e' h' K)/\zLW P ops seen more e H K
theorem zRW {i j:Nat}{l:List Nat}:j∈del i l↔j∈l/\j≠i:=by
 unfold del
 rw[zAX]
 constructor
 ·rintro⟨h,hb⟩
  refine⟨h,λe=>?_⟩
  subst e
  rw[zB2]at hb;cases hb
 ·rintro⟨h,hne⟩
  refine⟨h,?_⟩
  cases hb:Nat.beq i j with
  | false=>rfl
  | true=>exact absurd (zA6 hb).symm hne
theorem zAeq {i j:Nat}{l:List Nat}:del i (del j l)=del j (del i l):=by
 unfold del
 rw[List.filter_filter,List.filter_filter]
 congr 1;funext x;exact Bool.and_comm _ _
theorem zAje {i:Nat}{l:List Nat}(h:i∈l):(del i l).length<l.length:=by
 unfold del
 induction l with
 | nil=>cases h
 | cons a l ih =>
  rw[zCb]
  by_cases hai:i=a
  ·subst hai
   rw[zB2]
   simp only[zAe,zAb,if_false,zAQ]
   exact Nat.lt_succ_of_le (zBl _ _)
  ·have hm:=(zAr.1 h).resolve_left hai
   have:=ih hm
   split
   ·simp only[zAQ];omega
   ·simp only[zAQ];omega
theorem zSB {ops:Array Oper}{rem rem':List Nat}{i:Nat}(h:zIV ops rem i=true)(hs:∀ x,x∈rem'->x∈rem):zIV ops rem' i=true:=by
 unfold zIV at h ⊢
 cases ho:ops[i]? with
 | none=>simp[ho]at h
 | some o =>
  simp only[ho,zAy,zBz,Bool.and_eq_false_imp]at h ⊢
  intro g hg hb
  have:=h g hg hb
  cases hr:has rem' g.on with
  | false=>rfl
  | true=>rw[zDB.2 (hs _ (zDB.1 hr))]at this;cases this
theorem zLW.less {P:Program}{ops:Array Oper}:∀ {t:Tr} {seen seen':List Nat} {e:Env} {H:zAw} {K:Env->zAw->Prop},(∀ k,k∈seen'->k∈seen)->zLW P ops seen t e H K->zLW P ops seen' t e H K
 | .done,_,_,_,_,_,_,h=>h
 | .stop,_,_,_,_,_,_,_=>trivial
 | .lt i t,seen,seen',e,H,K,hs,h=>by
  simp only[zLW]at h ⊢
  cases ho:ops[i]? with
  | none=>simp[ho]at h
  | some o =>
   simp only[ho]at h ⊢
   exact zHy.mono h (λe' h' a j hj hm=>a j hj (hs j hm)) λe' h' b=>zLW.less (λk hk=>by
    rcases zAr.1 hk with rfl|hk
    ·simp
    ·simp[hs k hk]) b
 | .hv i rs t more,seen,seen',e,H,K,hs,h=>by
  simp only[zLW]at h ⊢
  refine⟨?_,zLW.less hs h.2⟩
  have h:=h.1
  cases ho:ops[i]? with
  | none=>simp[ho]at h
  | some o =>
   simp only[ho]at h ⊢
   exact zHy.mono h (λe' h' a j hj hm=>a j hj (hs j hm)) λe' h' b=>zLW.less (λk hk=>by
    rcases zAr.1 hk with rfl|hk
    ·simp
    ·simp[hs k hk]) b
theorem zTy {P:Program}{ops:Array Oper}:∀ {t:Tr} {rem bef bef':List Nat} {top:Bool},(∀ k,k∈bef'->k∈bef)->wfT P ops t rem bef top=true->wfT P ops t rem bef' top=true
 | .done,_,_,_,_,_,h=>h
 | .stop,_,_,_,_,_,h=>h
 | .lt i t,rem,bef,bef',top,hs,h=>by
  simp only[wfT,zAk]at h ⊢
  obtain⟨h1,h2,h3,h4,h5,h6⟩:=h
  exact⟨h1,h2,h3,h4,zAy.2 λk hk=>zAy.1 h5 k (hs k hk),zTy (λk hk=>by
    rcases zAr.1 hk with rfl|hk
    ·simp
    ·simp[hs k hk]) h6⟩
 | .hv i rs t more,rem,bef,bef',top,hs,h=>by
  simp only[wfT,zAk]at h ⊢
  obtain⟨h1,h2,h3,h4,h5,h6,h7,h8⟩:=h
  exact⟨h1,h2,h3,h4,zAy.2 λk hk=>zAy.1 h5 k (hs k hk),h6,zTy (λk hk=>by
    rcases zAr.1 hk with rfl|hk
    ·simp
    ·simp[hs k hk]) h7,zTy hs h8⟩
theorem zUS {P:Program}{ops:Array Oper}{i:Nat}{o:Oper}(ho:ops[i]? = some o):zXY P ops i=true↔(cls P o.op=0\/cls P o.op=1):=by
 unfold zXY
 simp only[ho]
 exact zAhr
theorem zAbQ {P:Program}{ops:Array Oper}{rs:List Nat}{i j:Nat}(h:zAhu P ops rs i j=true){oj oi:Oper}(hj:ops[j]? = some oj)(hi:ops[i]? = some oi)(hc:cls P oj.op=1):∀ t,oi.dst=some t->t∉oj.looksAt ops/\oj.dst≠some t:=by
 intro d hd
 simp only[zAhu,hj,hi,zAk,zB4,zBz]at h
 rcases h.2 with h3|⟨h3,h4⟩
 ·rw[hc]at h3;cases h3
 ·refine⟨zKr h3 hd,λhe=>?_⟩
  exact zKr h4 hd (by rw[he];simp)
theorem zAbR {P:Program}{ops:Array Oper}{rs:List Nat}{i j:Nat}(h:zAhu P ops rs i j=true){oj oi:Oper}(hj:ops[j]? = some oj)(hi:ops[i]? = some oi)(hl:cls P oj.op=0\/cls P oj.op=1)(hna:¬ Anc ops j i) :
  zTs P ops oj oi=true/\(cls P oj.op=1->cls P oi.op≠0->cls P oi.op≠1->j∈rs/\∃ d,oj.dst=some d/\d∉oj.looksAt ops):=by
 simp only[zAhu,hj,hi,zAk,zB4,zBz]at h
 rcases h.1 with (h1|h1)|⟨h1,h4⟩
 ·rw[zAhr.2 hl]at h1;cases h1
 ·exact absurd (zWD h1) hna
 ·refine⟨h1,λc1 c0 c2=>?_⟩
  rcases h4 with (h4|h4)|⟨⟨h4,h5⟩,h6⟩
  ·rw[c1]at h4;cases h4
  ·rcases zAhr.1 h4 with h4|h4
   ·exact absurd h4 c0
   ·exact absurd h4 c2
  ·obtain⟨d,hd⟩:=zB6.1 h5
   exact⟨zDB.1 h4,d,hd,zKr h6 hd⟩
theorem pull {P:Program}{ops:Array Oper}(hsel:∀ (x:Nat) (o:Oper),ops[x]? = some o->∀ cs b,o.op ≠ .select cs b){i:Nat}{o:Oper}(ho:ops[i]? = some o):∀ (t:Tr) (rem bef:List Nat) (top:Bool),wfT P ops t rem bef top=true->i∈rem->zIV ops rem i=true ->
  (top=false->zX0 t i=true)->(∀ j∈rem,¬ Anc ops j i) ->
  ∃ t' rs,(∀ k∈bef,zAhu P ops rs i k=true)/\(∀ k∈rs,zAbP P ops k=true)/\(zXY P ops i=true->rs=[])/\wfT P ops t' (del i rem) bef true=true /\
   ∀ seen,(∀ k∈seen,k∈bef)->∀ (e:Env) (H:zAw) (K:Env->zAw->Prop),zLW P ops seen t e H K->zHy P ops o e H (Ob P ops (λ_=>rs) seen i) λe1 h1=>zLW P ops seen t' e1 h1 K
 | .done,rem,bef,top,hw,hi,_,_,_=>by
  simp only[wfT,zAk,List.isEmpty_iff]at hw
  rw[hw.2]at hi;cases hi
 | .stop,rem,bef,top,hw,hi,_,hh,_=>by
  simp only[wfT,zBz]at hw
  have:=hh hw
  simp[zX0]at this
 | .lt j t,rem,bef,top,hw,hi,hr,hh,hna=>by
  simp only[wfT,zAk]at hw
  obtain⟨h1,h2,h3,h4,h5,h6⟩:=hw
  have hjr:=zDB.1 h2
  by_cases hij:i=j
  ·subst hij
   refine⟨t,[],λk hk=>zAy.1 h5 k hk,λk hk=>(by cases hk),λ_=>rfl,zTy (λk hk=>by simp[hk]) h6,λseen hs e H K h=>?_⟩
   simp only[zLW,ho]at h
   exact zHy.mono h (λ_ _ a=>a) λe1 h1 b=>zLW.less (λk hk=>by simp[hk]) b
  ·obtain⟨t',rs,g1,g2,g3,g4,g5⟩:=pull hsel ho t (del j rem) (j::bef) true h6 (zRW.2 ⟨hi,hij⟩) (zSB hr λx hx=>(zRW.1 hx).1) (λh=>by cases h) λk hk=>hna k (zRW.1 hk).1
   refine⟨.lt j t',rs,λk hk=>g1 k (by simp[hk]),g2,g3,?_,λseen hs e H K h=>?_⟩
   ·simp only[wfT,zAk]
    refine⟨by trivial,zDB.2 (zRW.2 ⟨hjr,λe=>hij e.symm⟩),zSB h3 λx hx=>(zRW.1 hx).1,h4,h5,?_⟩
    rw[zAeq];exact g4
   ·cases hj:ops[j]? with
    | none=>simp[zLW,hj]at h
    | some oj =>
     simp only[zLW,hj]at h ⊢
     have hcj:=(zUS hj).1 h4
     have hx:zHy P ops oj e H (Ob P ops (λ_=>[]) seen j) λe1 h1=>zHy P ops o e1 h1 (Ob P ops (λ_=>rs) (j::seen) i) λe2 h2=>zLW P ops (j::seen) t' e2 h2 K :=
      zHy.mono h (λ_ _ a=>a) λe1 h1 b=>g5 (j::seen) (λk hk=>by
       rcases zAr.1 hk with rfl|hk
       ·simp
       ·simp[hs k hk]) e1 h1 K b
     obtain⟨hok,hre⟩:=zAbR (g1 j (by simp)) hj ho hcj (hna j hjr)
     refine swap (hsel j _ hj) (hsel i _ ho) hok (Ci':=Ob P ops (λ_=>rs) seen i) ?_ ?_ hx
     ·intro hi0
      have:=g3 ((zUS ho).2 (.inl hi0))
      subst this
      exact⟨λe h k hk=>(by cases hk),λe h v hc k hk=>(by cases hk)⟩
     ·intro hi0
      refine⟨λe h k hk=>(by cases hk),λe h v hc k hk hm ok hok'=>?_,λhj1 hi1=>?_⟩
      ·have hk1:cls P ok.op=1:=by
        have:=g2 k hk
        simp only[zAbP,hok']at this
        exact zA6 this
       exact(zAbH (ops:=ops) (zAbQ (zAy.1 h5 k (hs k hm)) hok' hj hk1)).1 (hc k hk (by simp[hm]) ok hok')
      ·obtain⟨hm,hd⟩:=hre hj1 hi0 hi1
       exact⟨hd,λe h hc=>hc j hm (by simp) oj hj⟩
 | .hv j rs t more,rem,bef,top,hw,hi,hr,hh,hna=>by
  simp only[wfT,zAk]at hw
  obtain⟨h1,h2,h3,h4,h5,h6,h7,h8⟩:=hw
  have hhd:zX0 (.hv j rs t more) i=true:=by
   cases top with
   | false=>exact hh rfl
   | true =>
    simp only[zAe,Bool.false_or]at h1
    have:=zAy.1 h1 i hi
    rw[hr]at this
    simpa using this
  by_cases hij:i=j
  ·subst hij
   refine⟨t,rs,λk hk=>zAy.1 h5 k hk,λk hk=>zAy.1 h6 k hk,λhl=>?_,zTy (λk hk=>by simp[hk]) h7,λseen hs e H K h=>?_⟩
   ·rw[hl]at h4;cases h4
   ·simp only[zLW,ho]at h
    exact zHy.mono h.1 (λ_ _ a=>a) λe1 h1 b=>zLW.less (λk hk=>by simp[hk]) b
  ·have hm:zX0 more i=true:=by
    simp only[zX0,zB4]at hhd
    rcases hhd with hb|hb
    ·exact absurd (zA6 hb).symm hij
    ·exact hb
   obtain⟨t',rs',g1,g2,g3,g4,g5⟩:=pull hsel ho more rem bef false h8 hi hr (λ_=>hm) hna
   exact⟨t',rs',g1,g2,g3,g4,λseen hs e H K h=>g5 seen hs e H K h.2⟩
theorem zAal {ro:Option Nat}{m:Nat}{P:Program}{ops:Array Oper}{n:Nat}{Q:Exit->Act->World->Prop}{K:Env->zAw->Prop}{w0:World}{df:List Deferred}(hokall:∀ (i:Nat) (o:Oper),ops[i]? = some o->zXO n o=true)
  (hin:∀ (i:Nat) (o:Oper),ops[i]? = some o->∀ g∈o.after,Region.binds .any g=true->g.on<ops.size):∀ (fuel:Nat) (R:List Nat) (t:Tr) (listed:Array Bool) (a:Act) (w:World),
  R.length<=fuel->listed.size=ops.size->(∀ i,listed.getD i false=true->∀ x,zAhs ops x i->listed.getD x false=true)->(∀ i,i∈R↔i<ops.size/\listed.getD i true=false)->wfT P ops t R [] true=true->a.tmps.size=n->a.defers=df->zJs w0 w ->
  zLW P ops [] t (zDT a) w.heap K->(∀ a' w',zJs w0 w'->a'.tmps.size=n->a'.defers=df->K (zDT a') w'.heap->Q .normal a' w')->wpAnyIn (Fr ro) m P .any ops Q fuel listed a w:=by
 have hready:∀ (R:List Nat) (t:Tr) (listed:Array Bool),listed.size=ops.size->(∀ i,i∈R↔i<ops.size/\listed.getD i true=false)->wfT P ops t R [] true=true->Region.ready .any ops listed=[]->t = .done:=by
  intro R t listed hls hR hw hr
  have key:∀ x,has R x=true->zIV ops R x=true->False:=by
   intro x hx hrx
   have hx:=(hR x).1 (zDB.1 hx)
   have:x∈Region.ready .any ops listed:=by
    refine mem_ready.2 ⟨hx.2,ops[x],zBr hx.1,λg hg hb=>?_⟩
    have ho:ops[x]? = some ops[x]:=zBr hx.1
    have hlt:=hin x _ ho g hg hb
    cases hl:listed.getD g.on false with
    | true=>rfl
    | false =>
     exfalso
     have hl':listed.getD g.on true=false:=by
      simp only[zBt]at hl ⊢
      rw[zBr (by omega)]at hl ⊢
      simpa using hl
     have hm:g.on∈R:=(hR g.on).2 ⟨hlt,hl'⟩
     unfold zIV at hrx
     simp only[ho,zAy,zBz,Bool.and_eq_false_imp]at hrx
     have:=hrx g (zBv.2 hg) hb
     rw[zDB.2 hm]at this;cases this
   rw[hr]at this
   simp at this
  cases t with
  | done=>rfl
  | stop=>simp[wfT]at hw
  | lt i t =>
   simp only[wfT,zAk]at hw
   exact(key i hw.2.1 hw.2.2.1).elim
  | hv i rs t more =>
   simp only[wfT,zAk]at hw
   exact(key i hw.2.1 hw.2.2.1).elim
 intro fuel
 induction fuel with
 | zero =>
  intro R t listed a w hlen hls hcl hR hw hsz hdf hsm h hq
  have:R=[]:=zBk.1 (by omega)
  subst this
  have hr:Region.ready .any ops listed=[]:=by
   cases hr:Region.ready .any ops listed with
   | nil=>rfl
   | cons x l =>
    exfalso
    have hx:x∈Region.ready .any ops listed:=by rw[hr];simp
    obtain⟨h0,o,ho,_⟩:=mem_ready.1 hx
    have:=(hR x).2 ⟨(zBg.1 ho).1,h0⟩
    simp at this
  have:=hready [] t listed hls hR hw hr
  subst this
  exact⟨hr,hq a w hsm hsz hdf h⟩
 | succ fuel ih =>
  intro R t listed a w hlen hls hcl hR hw hsz hdf hsm h hq
  refine⟨λhr=>?_,λi hi=>?_⟩
  ·have:=hready R t listed hls hR hw hr
   subst this
   exact hq a w hsm hsz hdf h
  ·obtain⟨h0,o,ho,hall⟩:=mem_ready.1 hi
   have hilt:=(zBg.1 ho).1
   have hiR:i∈R:=(hR i).2 ⟨hilt,h0⟩
   have hna:∀ j∈R,¬ Anc ops j i:=by
    intro j hj hanc
    have hl:listed.getD j false=true:=zUP hcl (λx ⟨oy,hoy,g,hg,hb,hgo⟩=>by
     rw[ho]at hoy;cases hoy
     rw[<- hgo];exact hall g hg hb) hanc
    have hjR:=(hR j).1 hj
    simp only[zBt]at hl
    have:=hjR.2
    simp only[zBt]at this
    rw[zBr (by omega)]at hl this
    simp_all
   have hri:zIV ops R i=true:=by
    unfold zIV
    simp only[ho,zAy,zBz,Bool.and_eq_false_imp]
    intro g hg hb
    have hl:=hall g (zBv.1 hg) hb
    cases hm:has R g.on with
    | false=>rfl
    | true =>
     exfalso
     have hgR:=(hR g.on).1 (zDB.1 hm)
     simp only[zBt]at hl
     have:=hgR.2
     simp only[zBt]at this
     rw[zBr (by omega)]at hl this
     simp_all
   obtain⟨t',rs,_,_,_,g4,g5⟩:=pull (λx o hx=>zQ6 (hokall x o hx)) ho t R [] true hw hiR hri (λh=>by cases h) hna
   have h:=g5 [] (λk hk=>by cases hk) _ _ _ h
   refine zXV ho (hokall i o ho) hsz h.step λa' w' hs hs' hd' hk=>?_
   have hdl:=zAje hiR
   refine ih (del i R) t' (listed.setIfInBounds i true) a' w' ?_ ?_ ?_ ?_ g4 hs' (hd'.trans hdf) (hsm.trans hs) hk hq
   ·omega
   ·simp[hls]
   ·intro j hj x hx
    by_cases hji:j=i
    ·subst hji
     obtain⟨oy,hoy,g,hg,hb,hgo⟩:=hx
     rw[ho]at hoy;cases hoy
     rw[<- hgo]
     exact getD_set_true (hall g hg hb)
    ·rw[getD_set_ne false (Ne.symm hji)]at hj
     exact getD_set_true (hcl j hj x hx)
   ·intro j
    rw[zRW]
    by_cases hji:j=i
    ·subst hji
     simp only[ne_eq,not_true,and_false,false_iff,not_and]
     intro _
     simp[hls,hilt]
    ·rw[getD_set_ne true (Ne.symm hji),<- hR j]
     simp[hji]
def opG (P:Program)(ops:Array Oper)(o:Oper)(rs:List Oper)(e:Env)(H:zAw)(k:Env->zAw->Prop):Prop:=match o.guard with
 | none=>opX P false o (ev e) H λv h=>Mre (zVx P (e.put o.dst v) h rs) (k (e.put o.dst v) h)
 | some g=>match (ops[g.1]?).bind (·.dst) with
  | some t=>zK0 o.dst.toList.length
    (λk'=>Mif (e t) g.2 (opX P false o (ev e) H λv h=>Mre (zVx P (e.put o.dst v) h rs) (Cur.app _ k' (o.dst.toList.map (e.put o.dst v)) h))
     (Cur.app _ k' (o.dst.toList.map λ_=>undef) H))
    (Cur.of _ λvs h=>k (mg [] o.dst.toList e vs) h)
  | none=>False
def zAkP (ops:Array Oper)(D:List Nat)(o:Oper)(rs:List Oper):Bool:=zAel D o&&rs.all (zAem (addD o.dst D))&&(match o.guard with
 | none=>true
 | some g=>match (ops[g.1]?).bind (·.dst) with
  | some t=>has D t
  | none=>false)
theorem zUT {D:List Nat}{e e1:Env}{d:Option Nat}{v:Value}(h:zFU D e e1):zFU (addD d D) (mg [] d.toList e (d.toList.map (e.put d v))) (e1.put d v):=by
 intro i hi
 cases d with
 | none=>exact h i hi
 | some d =>
  show zAbj [d] [e.put (some d) v d] i (e i)=_
  simp only[zAbj]
  cases hb:Nat.beq i d with
  | true =>
   have:=zA6 hb
   subst this
   rw[zNT,zNT];rfl
  | false =>
   have hne:i≠d:=λe=>by subst e;rw[zB2]at hb;cases hb
   have hd:some d≠some i:=λh=>hne (zAK h).symm
   rw[zJu hd]
   exact h i ((zAr.1 hi).resolve_left hne)
theorem zAam {D:List Nat}{e e1:Env}{d:Option Nat}(h:zFU D e e1):zFU (addD d D) (mg [] d.toList e (d.toList.map λ_=>undef)) (e1.put d undef):=by
 have:=zUT (d:=d) (v:=undef) h
 have e2:(d.toList.map λ_=>undef)=d.toList.map (e.put d undef):=by
  cases d with
  | none=>rfl
  | some d=>show [undef]=[e.put (some d) undef d];rw[zNT]
 rw[e2];exact this
theorem zY9 {P:Program}{ops:Array Oper}{o:Oper}{rs:List Oper}{D:List Nat}{e e1:Env}{H:zAw}{k:Env->zAw->Prop}(hsel:∀ cs b,o.op ≠ .select cs b)(hc:zAkP ops D o rs=true)(ha:zFU D e e1)(h:opG P ops o rs e H k) :
  zHy P ops o e1 H (λe h=>∀ j∈rs,rc P j e h) λe1' h=>(∃ e',zFU (addD o.dst D) e' e1'/\k e' h)/\∀ i,o.dst≠some i->e1' i=e1 i:=by
 simp only[zAkP,zAk]at hc
 obtain⟨⟨hok,hre⟩,hg⟩:=hc
 have un:∀ v i,o.dst≠some i->e1.put o.dst v i=e1 i:=λv i h=>zJu h
 unfold opG at h
 cases hgd:o.guard with
 | none =>
  simp only[hgd]at h
  refine .inl ⟨by simp[act,hgd],?_⟩
  refine zNS hsel (zNU hok ha) (zGP h λv h' hh=>?_)
  obtain⟨hr,hh⟩:=zTu.1 hh
  exact⟨λj hj=>zVy (zAy.1 hre j hj) ha.put (hr j hj),⟨_,ha.put,hh⟩,un v⟩
 | some g =>
  simp only[hgd]at h hg
  cases ht:(ops[g.1]?).bind (·.dst) with
  | none=>simp[ht]at hg
  | some t =>
   simp only[ht]at h hg
   have hsg:zQ8 g o=true:=by simp[zQ8,hgd]
   have idle:e1 t ≠ .bool g.2->Cur.app o.dst.toList.length (Cur.of o.dst.toList.length λvs h=>k (mg [] o.dst.toList e vs) h) (o.dst.toList.map λ_=>undef) H ->
     zHy P ops o e1 H (λe h=>∀ j∈rs,rc P j e h) λe1' h=>(∃ e',zFU (addD o.dst D) e' e1'/\k e' h)/\∀ i,o.dst≠some i->e1' i=e1 i:=λhne hk=>by
    refine .inr ⟨zWy ht hsg hne,?_⟩
    rw[Cur.app_of (by simp)]at hk
    exact⟨⟨_,zAam ha,hk⟩,un _⟩
   rcases h.out with ⟨b,heb,hyes,hno⟩|⟨hnb,hno⟩
   ·have het:e1 t = .bool b:=by rw[<- ha t (zDB.1 hg)];exact heb
    by_cases hb:b=g.2
    ·subst hb
     refine .inl ⟨by rw[zVz ht hsg het];simp,?_⟩
     refine zNS hsel (zNU hok ha) (zGP (hyes rfl) λv h' hh=>?_)
     obtain⟨hr,hh⟩:=zTu.1 hh
     rw[Cur.app_of (by simp)]at hh
     exact⟨λj hj=>zVy (zAy.1 hre j hj) ha.put (hr j hj),⟨_,zUT ha,hh⟩,un v⟩
    ·have hb':b = !g.2:=by cases b<;>cases hq:g.2<;>simp_all
     exact idle (by rw[het];intro he;cases he;exact hb rfl) (hno hb')
   ·exact idle (by rw[<- ha t (zDB.1 hg)];exact hnb _) hno
def zAjf:Tr->Prop->Prop->Prop
 | .stop,p,_=>p
 | _,p,q=>p/\q
def zWI (P:Program)(ops:Array Oper):Tr->Env->zAw->(Env->zAw->Prop)->Prop
 | .done,e,H,K=>K e H
 | .stop,_,_,_=>True
 | .lt i t,e,H,K=>match ops[i]? with
  | none=>False
  | some o=>opG P ops o [] e H λe' h'=>zWI P ops t e' h' K
 | .hv i rs t more,e,H,K=>zAjf more (match ops[i]? with
  | none=>False
  | some o=>opG P ops o (rs.filterMap (ops[·]?)) e H λe' h'=>zWI P ops t e' h' K) (zWI P ops more e H K)
def zAer (ops:Array Oper)(L:List Nat):Tr->List Nat->Bool
 | .done,D=>L.all (has D)
 | .stop,_=>true
 | .lt i t,D=>match ops[i]? with
  | none=>false
  | some o=>zAkP ops D o []&&zAer ops L t (addD o.dst D)
 | .hv i rs t more,D=>(match ops[i]? with
  | none=>false
  | some o=>zAkP ops D o (rs.filterMap (ops[·]?))&&zAer ops L t (addD o.dst D))&&zAer ops L more D
theorem zAbS {t:Tr}{p q:Prop}(h:zAjf t p q)(hs:t = .stop->q):p/\q:=by
 cases t<;>first|exact h|exact⟨h,hs rfl⟩
theorem zPS {P:Program}{ops:Array Oper}{L:List Nat}(hsel:∀ (x:Nat) (o:Oper),ops[x]? = some o->∀ cs b,o.op ≠ .select cs b){e0:Env}:∀ (t:Tr) (seen D:List Nat) (e e1:Env) (H:zAw) (K:Env->zAw->Prop),
  zAer ops L t D=true->zFU D e e1->(∀ i,i∉zIp ops.toList->e1 i=e0 i)->zWI P ops t e H K->zLW P ops seen t e1 H λe1' h=>(∃ e',K e' h/\zFU L e' e1')/\∀ i,i∉zIp ops.toList->e1' i=e0 i
 | .done,seen,D,e,e1,H,K,hc,ha,hu,h=>⟨⟨e,h,λi hi=>ha i (zDB.1 (zAy.1 hc i hi))⟩,hu⟩
 | .stop,_,_,_,_,_,_,_,_,_,_=>trivial
 | .lt i t,seen,D,e,e1,H,K,hc,ha,hu,h=>by
  simp only[zAer]at hc
  simp only[zWI]at h
  simp only[zLW]
  cases ho:ops[i]? with
  | none=>simp[ho]at h
  | some o =>
   simp only[ho,zAk]at hc h ⊢
   have hm:o∈ops.toList:=zBv.2 (Array.mem_of_getElem? ho)
   refine zHy.mono (zY9 (hsel i o ho) hc.1 ha h) (λ_ _ _ k hk=>(by cases hk)) ?_
   rintro e1' h' ⟨⟨e',ha',hk⟩,hun⟩
   exact zPS hsel t _ _ e' e1' h' K hc.2 ha' (λi hi=>(hun i λhd=>hi (zLV hd hm)).trans (hu i hi)) hk
 | .hv i rs t more,seen,D,e,e1,H,K,hc,ha,hu,h=>by
  simp only[zAer,zAk]at hc
  simp only[zWI]at h
  simp only[zLW]
  have h:=zAbS h (λe=>by subst e;trivial)
  refine⟨?_,zPS hsel more seen D e e1 H K hc.2 ha hu h.2⟩
  have h:=h.1
  have hc:=hc.1
  cases ho:ops[i]? with
  | none=>simp[ho]at h
  | some o =>
   simp only[ho,zAk]at hc h ⊢
   have hm:o∈ops.toList:=zBv.2 (Array.mem_of_getElem? ho)
   refine zHy.mono (zY9 (hsel i o ho) hc.1 ha h) (λ_ _ a k hk _ ok hok=>a ok (List.mem_filterMap.2 ⟨k,hk,hok⟩)) ?_
   rintro e1' h' ⟨⟨e',ha',hk⟩,hun⟩
   exact zPS hsel t _ _ e' e1' h' K hc.2 ha' (λi hi=>(hun i λhd=>hi (zLV hd hm)).trans (hu i hi)) hk
def zAiW (P:Program)(ops:Array Oper):Bool:=pwB (zAkO P ops (zAf5 P ops)) (zAeo P ops)
def zVB (P:Program)(ops:Array Oper):Tr:=zAbO P ops ops.size [] (List.range ops.size)
def zAbT (P:Program)(V:List Nat)(ops:Array Oper)(e:Env)(H:zAw)(K:Env->zAw->Prop):Prop :=
 zK0 (both V (zIp ops.toList) V).length (λk=>zWI P ops (zVB P ops) e H λe' h=>Cur.app _ k ((both V (zIp ops.toList) V).map e') h)
  (Cur.of _ λvs h=>K (mg (zIp ops.toList) (both V (zIp ops.toList) V) e vs) h)
def zAes (P:Program)(V:List Nat)(n:Nat)(ops:Array Oper)(D:List Nat):Option (List Nat) :=
 bif P.follows .mixedOrders&&zAen n ops&&wfT P ops (zVB P ops) (List.range ops.size) [] true&&zAer ops (both V (zIp ops.toList) V) (zVB P ops) D then some (both V (zIp ops.toList) V++rm (zIp ops.toList) D) else none
def zVC (P:Program)(V:List Nat)(ops:Array Oper)(draw:Bool)(e:Env)(H:zAw)(K:Env->zAw->Prop):Prop :=
 bif draw && !zAiW P ops then zAbT P V ops e H K else zAf4 P V ops (ops.size+1) (zSA P ops draw) e H K
def zPl (P:Program)(V:List Nat)(n:Nat)(ops:Array Oper)(draw:Bool)(D:List Nat):Option (List Nat) :=
 bif draw && !zAiW P ops then zAes P V n ops D else bif (bif draw then zAbK P n ops (zAeo P ops) else ops.toList.all (zXO n)) then zQ9 V ops (ops.size+1) (zSA P ops draw) D else none
theorem zAbU {ro:Option Nat}{m:Nat}{P:Program}{V:List Nat}{n id:Nat}{ops:Array Oper}{draw:Bool}{D D':List Nat}(hc:zPl P V n ops draw D=some D'){e:Env}{a:Act}{w:World}{K:Env->zAw->Prop}{Q:Exit->Act->World->Prop}
  (ha:zFU D e (zDT a)) (hsz:a.tmps.size=n) (h:zVC P V ops draw e w.heap K)
  (hq:∀ a' w' e',zJs w w'->a'.tmps.size=n->a'.defers=a.defers->zFU D' e' (zDT a')->(∀ i,i∉zIp ops.toList->zDT a' i=zDT a i)->K e' w'.heap->Q .normal a' w'):(Code.region id ops draw).wpIn (Fr ro) m P Q a w:=by
 unfold zPl at hc
 unfold zVC at h
 cases hdl:draw && !zAiW P ops with
 | true =>
  rw[hdl]at hc h
  simp only[cond_true]at hc h
  obtain rfl:draw=true:=by cases draw<;>simp_all
  unfold zAes at hc
  cases hall:(P.follows .mixedOrders&&zAen n ops&&wfT P ops (zVB P ops) (List.range ops.size) [] true&&zAer ops (both V (zIp ops.toList) V) (zVB P ops) D) with
  | false=>rw[hall]at hc;cases hc
  | true =>
   rw[hall]at hc
   simp only[cond_true,zAm]at hc
   subst hc
   simp only[zAk]at hall
   obtain⟨⟨⟨hm,hok⟩,hw⟩,hct⟩:=hall
   have hokall:∀ (i:Nat) (o:Oper),ops[i]? = some o->zXO n o=true/\∀ g∈o.after,Region.binds .any g=true->g.on≠i/\g.on<ops.size:=by
    intro i o ho
    have hi:=(zBg.1 ho).1
    have:=zAy.1 hok i (by simpa using hi)
    simp only[ho,zAk,zAy,zB4,zBz]at this
    refine⟨this.1,λg hg hb=>?_⟩
    rcases this.2 g (zBv.2 hg) with h|⟨h1,h2⟩
    ·rw[hb]at h;cases h
    ·exact⟨λhe=>(by rw[he,zB2]at h1;cases h1),zC6 h2⟩
   have hs:=zPS (e0:=zDT a) (λx o hx=>zQ6 (hokall x o hx).1) (zVB P ops) [] D e (zDT a) w.heap _ hct ha (λ_ _=>rfl) h.out
   refine wpIn_region_any hm ?_
   refine zAal (n:=n) (w0:=w) (df:=a.defers) (λi o ho=>(hokall i o ho).1) (λi o ho g hg hb=>((hokall i o ho).2 g hg hb).2) ops.size (List.range ops.size) (zVB P ops) (Array.replicate ops.size false) a { w with drawn:=w.drawn+1 } (by simp) (by simp) (λi hi=>by
     exfalso;revert hi;simp only[zBt,Array.getElem?_replicate];split<;>simp) ?_ hw hsz rfl ⟨rfl,rfl,rfl,zFT.rfl'⟩ hs ?_
   ·intro i
    constructor
    ·intro hi
     have hi:=zBZ.1 hi
     exact⟨hi,by simp[hi]⟩
    ·rintro⟨hi,_⟩
     exact zBZ.2 hi
   ·rintro a' w' hs hs' hd ⟨⟨e',hk,hag⟩,hun⟩
    rw[Cur.app_of (by simp)]at hk
    refine hq a' w' _ hs hs' hd ?_ hun hk
    exact zQ7 rfl ha hun (zBS λi hi=>hag i hi)
 | false =>
 rw[hdl]at hc h
 simp only[cond_false]at hc h
 clear hdl
 cases draw with
 | false =>
  simp only[cond_false]at hc
  cases hall:ops.toList.all (zXO n) with
  | false=>rw[hall]at hc;cases hc
  | true =>
   rw[hall]at hc
   have hok:∀ o∈ops.toList,zXO n o=true:=zAy.1 hall
   have hf:=zTx (zRV (zRb _ _ _ _ e (zDT a) w.heap K (λx hx=>zQ6 (hok _ (zWH (by simpa [zSA] using hx)))) hc ha h))
   rw[show zEY (zKq ops.toList)=ops.toList from zWG]at hf
   refine wpIn_region ?_
   refine zUO (n:=n) (q:=false) (K:=λe1' h=>(∃ e',K e' h/\zFU D' e' e1')/\∀ i,i∉zIp ops.toList->e1' i=zDT a i) (w0:=w) (df:=a.defers) (List.range ops.size) ops.toList (by simp) ?_ a w hsz rfl (zJs.rfl' w) hf ?_
   ·intro j i hj
    have hji:j<ops.size/\i=j:=by
     have:=zAP.1 hj
     obtain⟨h1,h2⟩:=this
     simp at h1 h2
     exact⟨h1,h2.symm⟩
    obtain⟨hlt,rfl⟩:=hji
    exact⟨ops[i],by simp[hlt],zBr hlt,hok _ (by simp)⟩
   ·rintro a' w' hs hs' hd ⟨⟨e',hk,hag⟩,hun⟩
    exact hq a' w' e' hs hs' hd hag hun hk
 | true =>
  simp only[cond_true]at hc
  cases hall:zAbK P n ops (zAeo P ops) with
  | false=>rw[hall]at hc;cases hc
  | true =>
   rw[hall]at hc
   simp only[zAbK,zAk]at hall
   obtain⟨⟨⟨⟨⟨hm,hok⟩,hnd⟩,hlt⟩,hcov⟩,hpw⟩:=hall
   have hokall:∀ (i:Nat) (o:Oper),ops[i]? = some o->zXO n o=true/\∀ g∈o.after,Region.binds .any g=true->g.on≠i/\g.on<ops.size:=by
    intro i o ho
    have hi:=(zBg.1 ho).1
    have:=zAy.1 hok i (by simpa using hi)
    simp only[ho,zAk,zAy,zB4,zBz]at this
    refine⟨this.1,λg hg hb=>?_⟩
    rcases this.2 g (zBv.2 hg) with h|⟨h1,h2⟩
    ·rw[hb]at h;cases h
    ·exact⟨λhe=>(by rw[he,zB2]at h1;cases h1),zC6 h2⟩
   have hltl:∀ i∈zAeo P ops,i<ops.size:=λi hi=>zC6 (zAy.1 hlt i hi)
   have hfst:(zAf5 P ops).map (·.1)=zAeo P ops:=zWE
   have hf:=zRV (zRb _ _ _ _ e (zDT a) w.heap K (λx hx=>by
    simp only[zSA,cond_true]at hx
    obtain⟨i,hio⟩:=zS6 hx
    exact zQ6 (hokall i _ hio).1) hc ha h)
   have hs:=zTw (tab0:=zAf5 P ops) (seen:=[]) (λi r hm=>⟨zWF (by rw[hfst];exact zS5 hnd) hm,hltl i (by rw[<- hfst];exact zAo.2 ⟨_,hm,rfl⟩)⟩) hf
   rw[hfst]at hs
   refine wpIn_region_any hm ?_
   refine zAak (rsl:=lk (zAf5 P ops)) (n:=n) (K:=λe1' h=>(∃ e',K e' h/\zFU D' e' e1')/\∀ i,i∉zIp (zEY (zSA P ops true))->e1' i=zDT a i) (w0:=w) (df:=a.defers) (λi o ho=>(hokall i o ho).1) (λi o ho ⟨g,hg,hb,he⟩=>((hokall i o ho).2 g hg hb).1 he)
    (λi o ho g hg hb=>((hokall i o ho).2 g hg hb).2) ?_ ?_ ops.size (zAeo P ops) (Array.replicate ops.size false) a { w with drawn:=w.drawn+1 } ?_ (by simp) (λi hi=>by
     exfalso;revert hi;simp only[zBt,Array.getElem?_replicate];split<;>simp) ?_ ?_ (zS5 hnd) hsz rfl ⟨rfl,rfl,rfl,zFT.rfl'⟩ hs ?_
   ·intro x o hx hcl
    cases hl:lk (zAf5 P ops) x with
    | nil=>rfl
    | cons k r =>
     exfalso
     obtain⟨r',hr',hk⟩:=zAf6 (tab:=zAf5 P ops) (i:=x) (k:=k) (by rw[hl];simp)
     obtain⟨b,rfl⟩:=zTv hr'
     simp only[zAbJ,hx,zAhr.2 hcl,cond_true]at hk
     simp at hk
   ·intro x k ok hk hok'
    obtain⟨r',hr',hk⟩:=zAf6 hk
    obtain⟨b,rfl⟩:=zTv hr'
    unfold zAbJ at hk
    split at hk
    ·rename_i o hx
     cases hb:Nat.ble (cls P o.op) 1 with
     | true=>rw[hb]at hk;simp at hk
     | false =>
      rw[hb]at hk
      have:=(zAX.1 hk).2
      simp only[hok',zAk]at this
      exact zA6 this.1
    ·simp at hk
   ·have:=List.Nodup.length_le_of_subset (zS5 hnd) (l₂:=List.range ops.size) (λi hi=>by simpa using hltl i hi)
    simpa using this
   ·intro i
    constructor
    ·intro hi;exact⟨hltl i hi,by simp[hltl i hi]⟩
    ·rintro⟨hi,_⟩
     exact zDB.1 (zAy.1 hcov i (by simpa using hi))
   ·exact(zY7 hpw).imp λ{x y} hxy=>zAbN hxy
   ·rintro a' w' hs hs' hd ⟨⟨e',hk,hag⟩,hun⟩
    refine hq a' w' e' hs hs' hd hag (λi hi=>hun i λhm=>hi (zAep (λo ho=>?_) hm)) hk
    obtain⟨x,hx,rfl⟩:=zUR ho
    simp only[zSA,cond_true]at hx
    obtain⟨j,hjo⟩:=zS6 hx
    exact zBv.2 (Array.mem_of_getElem? hjo)
def zAk7 (ops:Array Oper):List Nat:=zIp ops.toList
def asg:Code->List Nat
 | .region _ ops _=>zAk7 ops
 | .seq a b=>asg a++asg b
 | .cond _ a b=>asg a++asg b
 | .block _ a=>asg a
 | .loop a=>asg a
 | .scope a=>asg a
 | _=>[]
def zOi (id:Nat):Code->Nat
 | .exit j=>bif Nat.beq j id then 1 else 0
 | .seq a b=>zOi id a+zOi id b
 | .cond _ a b=>zOi id a+zOi id b
 | .block _ a=>zOi id a
 | .loop a=>zOi id a
 | .scope a=>zOi id a
 | .rangeFunc _ _ _ a=>zOi id a
 | _=>0
def zQD:Code->Bool
 | .seq a b=>zQD a || zQD b
 | .cond _ a b=>zQD a || zQD b
 | .block _ a=>zQD a
 | .loop _=>true
 | .scope a=>zQD a
 | _=>false
def ways:Code->Nat
 | .skip=>1
 | .label _=>1
 | .region _ _ _=>1
 | .seq a b=>bif Nat.beq (ways a) 0 then 0 else ways b
 | .cond _ a b=>ways a+ways b
 | .block id a=>ways a+zOi id a
 | .scope a=>ways a
 | .rangeFunc _ _ _ _=>1
 | _=>0
def zUz:Code->Bool
 | .seq a b=>zUz a || zUz b
 | .cond _ a b=>zUz a || zUz b
 | .block _ a=>zUz a
 | .loop a=>zUz a
 | .scope a=>zUz a
 | .rangeFunc _ _ _ _=>true
 | _=>false
def zNa:Code->Bool
 | .seq a b=>zNa a || zNa b
 | .cond _ a b=>zNa a || zNa b
 | .block _ a=>zNa a
 | .loop a=>zNa a
 | .scope a=>zNa a
 | .rangeFunc _ _ _ a=>zNa a
 | .ret=>true
 | _=>false
def zAan (a:Code):Bool:=Nat.ble 2 (ways a) || zQD a
def zAet:List (List Nat)->List Nat->List Nat
 | [],D=>D
 | d::l,D=>zAet l (D.filter (has d))
def exD (id:Nat):List (Nat×List Nat)->List (List Nat)
 | []=>[]
 | (j,d)::l=>bif Nat.beq j id then d::exD id l else exD id l
def zAiX (id:Nat):List (Nat×List Nat)->List (Nat×List Nat)
 | []=>[]
 | (j,d)::l=>bif Nat.beq j id then zAiX id l else (j,d)::zAiX id l
def zTz:List (List Nat)->Option (List Nat)
 | []=>none
 | d::l=>some (zAet l d)
def zAbV (L D:List Nat):Bool:=L.all (has D)
structure Inf where
 nrm:Option (List Nat)
 exs:List (Nat×List Nat)
def chk (P:Program)(V R:List Nat)(n:Nat):Code->List Nat->Option Inf
 | .rangeFunc g ps as b,D=>bif zXX D g&&ps.toList.all (λp=>Nat.ble (p+1) n)&&(!zNa b || zAbV R D) then (match chk P V R n as (ps.toList++D) with
  | some ⟨some Da,_⟩=>(match chk P V R n b Da with
   | some ⟨_,E⟩=>some ⟨some D,E.map λp=>(p.1,D)⟩
   | none=>none)
  | _=>none) else none
 | .skip,D=>some ⟨some D,[]⟩
 | .label _,D=>some ⟨some D,[]⟩
 | .scope a,D=>chk P V R n a D
 | .region _ ops draw,D=>(zPl P V n ops draw D).map λD'=>⟨some D',[]⟩
 | .seq a b,D=>match chk P V R n a D with
  | some ⟨some Da,E⟩=>match chk P V R n b (bif zAan a then both V (asg a) Da++rm (asg a) D else Da) with
   | some ⟨nb,E2⟩=>some ⟨nb,E++E2⟩
   | none=>none
  | some ⟨none,E⟩=>some ⟨none,E⟩
  | none=>none
 | .cond c a b,D=>bif zXX D c then (match chk P V R n a D,chk P V R n b D with
  | some ⟨na,Ea⟩,some ⟨nb,Eb⟩=>some ⟨zTz (na.toList++nb.toList),Ea++Eb⟩
  | _,_=>none) else none
 | .block id a,D=>match chk P V R n a D with
  | some ⟨na,E⟩=>some ⟨zTz (na.toList++exD id E),zAiX id E⟩
  | none=>none
 | .loop a,D=>match chk P V R n a (both V (asg a) D++rm (asg a) D) with
  | some ⟨na,E⟩=>bif (match na with|some d=>zAbV (both V (asg a) D) d|none=>true) then some ⟨none,E⟩ else none
  | none=>none
 | .exit id,D=>some ⟨none,[(id,D)]⟩
 | .ret,D=>bif zAbV R D then some ⟨none,[]⟩ else none
 | _,_=>some ⟨none,[]⟩
def zRX (P:Program)(V R:List Nat)(n:Nat)(a:Code)(D:List Nat):List Nat:=match chk P V R n a D with
 | some ⟨some d,_⟩=>d
 | _=>[]
def zWJ (K:Env->zAw->Prop)(Q:Exit->Env->zAw->Prop):Exit->Env->zAw->Prop
 | .normal,e,h=>K e h
 | .exit id,e,h=>Q (.exit id) e h
 | .goto l,e,h=>Q (.goto l) e h
 | .ret,e,h=>Q .ret e h
 | .panic c,e,h=>Q (.panic c) e h
 | .outgrown,e,h=>Q .outgrown e h
def zZa (id:Nat)(Q:Exit->Env->zAw->Prop):Exit->Env->zAw->Prop
 | .normal,e,h=>Q .normal e h
 | .exit j,e,h=>bif Nat.beq j id then Q .normal e h else Q (.exit j) e h
 | .goto l,e,h=>Q (.goto l) e h
 | .ret,e,h=>Q .ret e h
 | .panic c,e,h=>Q (.panic c) e h
 | .outgrown,e,h=>Q .outgrown e h
def zAf7 (k:Option Code->zAw->Prop):Exit->Env->zAw->Prop
 | .normal,_,h=>k none h
 | .ret,_,h=>k (some .ret) h
 | .exit id,_,h=>k (some (.exit id)) h
 | _,_,_=>False
def zX1 (b:Bool)(Q:Exit->Env->zAw->Prop)(e:Env):List Nat->Option Code->zAw->Prop
 | [],j,h=>(j=none/\Q .normal e h)\/(bif b then j=some .ret/\Q .ret e h else False)
 | id::l,j,h=>(j=some (.exit id)/\Q (.exit id) e h)\/zX1 b Q e l j h
def zX2:List Nat->Nat->List Value->Env->Env
 | [],_,_,e=>e
 | p::ps,i,args,e=>zX2 ps (i+1) args (e.put (some p) (args.getD i undef))
def zAbW (P:Program)(fv:Value)(args:List Value)(H:zAw)(k:zAn):Prop :=
 ∃ f fi ca,fv = .func (.func f) fi ca/\zPc P f=true/\zAz P f (fi.toList++args++ca.toList) H k
def zAiY (l:Nat)(h:zAw)(k:zAw->Prop):Prop:=∃ r:Loop,h[l]? = some (.loop r)/\r.state = .ready/\k (h.setIfInBounds l (.loop { r with state := .busy }))
def zAl3 (K:Env->zAw->Prop):Exit->Env->zAw->Prop
 | .normal,e,h=>K e h
 | _,_,_=>False
def zSC (P:Program)(n0:Nat)(fv:Value)(H:zAw)(B:List Value->zAw->(Option Code->zAw->Prop)->Prop)(rest:Option Code->zAw->Prop):Prop :=
 n0<=H.size/\∀ rec:Loop,rec.state = .ready->rec.pending=none ->
  (∀ args h k,h[H.size+1]? = some (.loop rec) ->
   B args h (λj h'=>∃ r',h'[H.size+1]? = some (.loop r')/\k (.bool j.isNone) (h'.setIfInBounds (H.size+1) (.loop { r' with state:=if j.isNone then .ready else .done,pending:=j }))) ->
   zTn P (H.size+1) args h k) ->
  zAbW P fv [.func (.yield (H.size+1)) #[] #[]] ((H.push (.deferred (some []))).push (.loop rec)) λ_ h =>
   ∃ r',h[H.size+1]? = some (.loop r')/\r'.state ≠ .busy/\rest r'.pending (h.setIfInBounds (H.size+1) (.loop { r' with state := .exhausted }))
def zAbX (i:Option Inf):List Nat:=match i with
 | some ⟨_,E⟩=>uni (E.map (·.1)) []
 | none=>[]
def den (P:Program)(V R:List Nat)(n n0:Nat):Bool->Code->List Nat->Env->zAw->(Exit->Env->zAw->Prop)->Prop
 | M,.rangeFunc g ps as b,D,e,H,Q=>bif M then
   zSC P n0 (ev e g) H (λargs h k=>args.length=ps.size/\den P V R n n0 false as (ps.toList++D) (zX2 ps.toList 0 args e) h
     (zAl3 λe' h'=>zAiY (H.size+1) h' λh''=>den P V R n n0 false b (zRX P V R n as (ps.toList++D)) e' h'' (zAf7 k)))
    (zX1 (zNa b) Q e (zAbX (chk P V R n b (zRX P V R n as (ps.toList++D)))))
  else False
 | _,.skip,_,e,H,Q=>Q .normal e H
 | _,.label _,_,e,H,Q=>Q .normal e H
 | M,.scope a,D,e,H,Q=>den P V R n n0 M a D e H Q
 | _,.region _ ops draw,_,e,H,Q=>zVC P V ops draw e H λe h=>Q .normal e h
 | M,.seq a b,D,e,H,Q=>bif zAan a then
   zK0 (both V (asg a) (zRX P V R n a D)).length
    (λk=>den P V R n n0 M a D e H (zWJ (λe' h'=>Cur.app _ k ((both V (asg a) (zRX P V R n a D)).map e') h') Q))
    (Cur.of _ λvs h'=>den P V R n n0 M b (both V (asg a) (zRX P V R n a D)++rm (asg a) D) (mg (asg a) (both V (asg a) (zRX P V R n a D)) e vs) h' Q)
  else den P V R n n0 M a D e H (zWJ (λe' h'=>den P V R n n0 M b (zRX P V R n a D) e' h' Q) Q)
 | M,.cond c a b,D,e,H,Q=>Mcd (ev e c) (den P V R n n0 M a D e H Q) (den P V R n n0 M b D e H Q)
 | M,.block id a,D,e,H,Q=>den P V R n n0 M a D e H (zZa id Q)
 | M,.loop a,D,e,H,Q=>zVw (both V (asg a) D).length
   (λnext=>Cur.of _ λvs h'=>den P V R n n0 M a (both V (asg a) D++rm (asg a) D) (mg (asg a) (both V (asg a) D) e vs) h'
    (zWJ (λe'' h''=>Cur.app _ next ((both V (asg a) D).map e'') h'') Q)) ((both V (asg a) D).map e) H
 | _,.exit id,_,e,H,Q=>Q (.exit id) e H
 | _,.ret,_,e,H,Q=>Q .ret e H
 | _,_,_,_,_,_=>False
def Out (R:List Nat)(I:Inf)(A:List Nat)(a0 a:Act)(e:Env):Exit->Prop
 | .normal=>(∃ d,I.nrm=some d/\zFU d e (zDT a))/\∀ i,i∉A->zDT a i=zDT a0 i
 | .exit id=>(∃ d,(id,d)∈I.exs/\zFU d e (zDT a))/\∀ i,i∉A->zDT a i=zDT a0 i
 | .ret=>zFU R e (zDT a)
 | _=>False
def Mks (M:Bool)(n0:Nat)(df:List Deferred)(H:zAw):Prop :=
 (M=false->df=[])/\df.Pairwise (λx y=>x.target≠y.target)/\∀ d∈df,∃ r,d.target = .collected r/\n0<=r/\H[r]? = some (.deferred (some []))
theorem Mks.solid {M:Bool}{n0:Nat}{df:List Deferred}{H H':zAw}(h:Mks M n0 df H)(s:zFT H H'):Mks M n0 df H' :=
 ⟨h.1,h.2.1,λd hd=>let ⟨r,h1,h2,h3⟩:=h.2.2 d hd; ⟨r,h1,h2,s _ _ h3⟩⟩
theorem Mks.nil {M:Bool}{n0:Nat}{H:zAw}:Mks M n0 [] H:=⟨λ_=>rfl,.nil,λd hd=>(by cases hd)⟩
def zAk8 (M:Bool)(n0 n:Nat)(R:List Nat)(I:Inf)(A:List Nat)(a0:Act)(w0:World)(Q:Exit->Env->zAw->Prop):Exit->Act->World->Prop:=λex a w =>
 ∃ e,Q ex e w.heap/\zJs w0 w/\a.tmps.size=n/\Mks M n0 a.defers w.heap/\Out R I A a0 a e ex
theorem zMm:∀ {l:List (List Nat)} {D d:List Nat} {e e1:Env},d∈l\/d=D->zFU d e e1->zFU (zAet l D) e e1
 | [],D,d,e,e1,h,ha=>by
  rcases h with h|rfl
  ·simp at h
  ·exact ha
 | x::l,D,d,e,e1,h,ha=>by
  simp only[zAet]
  rcases h with h|rfl
  ·rcases zAr.1 h with rfl|h
   ·refine zMm (.inr rfl) λi hi=>ha i ?_
    exact zDB.1 (zAX.1 hi).2
   ·exact zMm (.inl h) ha
  ·exact zMm (.inr rfl) λi hi=>ha i (zAX.1 hi).1
theorem zPT {l:List (List Nat)}{d:List Nat}{e e1:Env}(h:d∈l)(ha:zFU d e e1):∃ m,zTz l=some m/\zFU m e e1:=by
 cases l with
 | nil=>simp at h
 | cons x l =>
  refine⟨_,rfl,?_⟩
  rcases zAr.1 h with rfl|h
  ·exact zMm (.inr rfl) ha
  ·exact zMm (.inl h) ha
theorem zAbY {id:Nat}{d:List Nat}:∀ {E:List (Nat×List Nat)},(id,d)∈E->d∈exD id E
 | (j,d')::l,h=>by
  simp only[exD]
  rcases zAr.1 h with h|h
  ·cases h;rw[zB2];simp
  ·have:=zAbY h
   cases Nat.beq j id
   ·exact this
   ·exact zCW _ this
theorem zZb {id j:Nat}{d:List Nat}(hne:Nat.beq j id=false):∀ {E:List (Nat×List Nat)},(j,d)∈E->(j,d)∈zAiX id E
 | (j',d')::l,h=>by
  simp only[zAiX]
  rcases zAr.1 h with h|h
  ·cases h;rw[hne];simp
  ·have:=zZb hne h
   cases Nat.beq j' id
   ·exact zCW _ this
   ·exact this
theorem zPU {M:Bool}{n0 n:Nat}{R:List Nat}{Ia I:Inf}{A B:List Nat}{a0:Act}{w0:World}{K:Env->zAw->Prop}{Q:Exit->Env->zAw->Prop}{next:Act->World->Prop}
  (hnext:∀ a w e,K e w.heap->zJs w0 w->a.tmps.size=n->Mks M n0 a.defers w.heap->Out R Ia A a0 a e .normal->next a w) (hsub:∀ i,i∉B->i∉A) (hex:∀ p,p∈Ia.exs->p∈I.exs) :
  ∀ ex a w,zAk8 M n0 n R Ia A a0 w0 (zWJ K Q) ex a w->Exit.then next (zAk8 M n0 n R I B a0 w0 Q) ex a w:=by
 rintro ex a w ⟨e,hq,hs,hz,hd,ho⟩
 cases ex with
 | normal=>exact hnext a w e hq hs hz hd ho
 | exit id=>exact⟨e,hq,hs,hz,hd,⟨ho.1.imp λd h=>⟨hex _ h.1,h.2⟩,λi hi=>ho.2 i (hsub i hi)⟩⟩
 | ret=>exact⟨e,hq,hs,hz,hd,ho⟩
 | goto l=>exact ho.elim
 | panic c=>exact ho.elim
 | outgrown=>exact ho.elim
theorem zFT.setL {H:zAw}{b:Nat}{r r':Loop}(hb:H[b]? = some (.loop r)):zFT H (H.setIfInBounds b (.loop r')):=λi ds h=>by
 rw[zAD]
 split
 ·rename_i e;subst e;rw[hb]at h;cases h
 ·exact h
theorem zAbZ {nr:Option (List Nat)}{E:List (Nat×List Nat)}{id:Nat}(h:id∈zAbX (some ⟨nr,E⟩)):∃ d,(id,d)∈E:=by
 simp only[zAbX]at h
 rcases zAbL h with h|h
 ·obtain⟨⟨i,d⟩,hm,rfl⟩:=zAo.1 h;exact⟨d,hm⟩
 ·cases h
theorem zWK {b:Bool}{Q:Exit->Env->zAw->Prop}{e:Env}{j:Option Code}{h:zAw}:∀ {l:List Nat},zX1 b Q e l j h ->
  (j=none/\Q .normal e h)\/(j=some .ret/\b=true/\Q .ret e h)\/∃ id,j=some (.exit id)/\id∈l/\Q (.exit id) e h
 | [],hq=>by
  simp only[zX1]at hq
  rcases hq with hq|hq
  ·exact .inl hq
  ·cases b with
   | false=>exact hq.elim
   | true=>exact .inr (.inl ⟨hq.1,rfl,hq.2⟩)
 | id::l,hq=>by
  simp only[zX1]at hq
  rcases hq with ⟨h1,h2⟩|hq
  ·exact .inr (.inr ⟨id,h1,by simp,h2⟩)
  ·rcases zWK hq with h|h|⟨i,h1,h2,h3⟩
   ·exact .inl h
   ·exact .inr (.inl h)
   ·exact .inr (.inr ⟨i,h1,by simp[h2],h3⟩)
theorem zUU:∀ {l:List (Nat×Value)} {t:Array Value},(l.foldl (λt (p,v)=>t.setIfInBounds p v) t).size=t.size
 | [],t=>rfl
 | (p,v)::l,t=>by rw[List.foldl_cons,zUU (l:=l)];simp
theorem zX3 {ps:Array Nat}{args:Array Value}{t:Array Value}:((ps.zip args).foldl (λt (p,v)=>t.setIfInBounds p v) t).size=t.size:=by
 rw[<- Array.foldl_toList];exact zUU
theorem zPm {n:Nat}:∀ {ps:List Nat} {i:Nat} {args:List Value} {t:Array Value} {D:List Nat} {e:Env},t.size=n->(∀ p∈ps,p<n)->i+ps.length=args.length ->
  zFU D e (λi=>t.getD i undef)->zFU (ps++D) (zX2 ps i args e) (λk=>((ps.zip (args.drop i)).foldl (λt (p,v)=>t.setIfInBounds p v) t).getD k undef)
 | [],i,args,t,D,e,_,_,_,ha=>by simpa [zX2] using ha
 | p::ps,i,args,t,D,e,ht,hp,hl,ha=>by
  have hlt:i<args.length:=by simp at hl;omega
  rw[zBF hlt,List.zip_cons_cons,List.foldl_cons]
  have hpn:=hp p (by simp)
  have:=zPm (n:=n) (ps:=ps) (i:=i+1) (args:=args) (t:=t.setIfInBounds p args[i]) (D:=p::D) (e:=e.put (some p) (args.getD i undef)) (by simpa using ht) (λq hq=>hp q (by simp[hq])) (by simp at hl;omega) ?_
  ·intro k hk
   refine this k ?_
   simp only[zCs,zAr,zAt]at hk ⊢
   rcases hk with h|h|h<;>simp[h]
  ·intro k hk
   by_cases hkp:k=p
   ·subst hkp
    rw[zNT]
    simp[ht,hpn,hlt]
   ·rw[zJu (by simpa using λh=>hkp h.symm)]
    rcases zAr.1 hk with h|h
    ·exact absurd h hkp
    ·rw[ha k h]
     simp[Array.getElem?_setIfInBounds_ne (Ne.symm hkp)]
theorem zX4 {n:Nat}{ps:Array Nat}{args:List Value}{a:Act}{D:List Nat}{e:Env}(hz:a.tmps.size=n)(hp:ps.toList.all (λp=>Nat.ble (p+1) n)=true)(hl:args.length=ps.size)(ha:zFU D e (zDT a)) :
  zFU (ps.toList++D) (zX2 ps.toList 0 args e) (zDT { tmps:=(ps.zip args.toArray).foldl (λt (p,v)=>t.setIfInBounds p v) a.tmps,defers:=[] }):=by
 have:=zPm (n:=n) (ps:=ps.toList) (i:=0) (args:=args) (t:=a.tmps) (D:=D) (e:=e) hz (λp hm=>zC6 (zAy.1 hp p hm)) (by simpa using hl.symm) ha
 rw[zBY]at this
 unfold zDT
 rw[<- Array.foldl_toList]
 simpa using this
section
variable {F:Fence} {n:Nat} {P:Program} {Q:Exit->Act->World->Prop} {a:Act} {w:World} {b:Frame} {k:List Go.Item} {cs:List Frame}
theorem zKs {c:Code}:step P (lone (b.atR a (.code (.scope c)::k)) cs w) = .next (lone (b.atR a (.code c :: .inScope c::k)) cs w) :=
 step_lone_go (by simp[stepG,stepG.exec,Frame.atR])
theorem zVD {c:Code}:step P (lone (b.atR a (.inScope c::k)) cs w) = .next (lone (b.atR a k) cs w) :=
 step_lone_go (by simp[stepG,stepG.exec,Frame.atR])
theorem zAao {c:Code}(h:c.wpIn F n P Q a w)(hg:∀ l a w,¬ Q (.goto l) a w):(Code.scope c).wpIn F n P Q a w:=by
 intro b k cs hro hb hr
 have h0:(lone (b.atR a (.code (.scope c)::k)) cs w).fenced P F:=fenced_calm hb hr rfl
 obtain⟨e,a₁,w₁,hq,harr⟩:=h b (.inScope c::k) cs hro hb hr
 cases e with
 | normal=>exact⟨.normal,a₁,w₁,hq,.head h0 zKs (StepsIn.trans harr (.one (fenced_calm hb hr rfl) zVD))⟩
 | exit id =>
  have hx:exitTo id (.inScope c::k)=exitTo id k:=by simp[exitTo]
  exact⟨_,a₁,w₁,hq,λk' hk => .head h0 zKs (harr.1 k' (by rw[hx];exact hk)),
   λhr' hk=>let ⟨k₁,h1,h2⟩:=harr.2 hr' (by rw[hx];exact hk); ⟨k₁,h1,.head h0 zKs h2⟩⟩
 | goto l=>exact absurd hq (hg _ _ _)
 | ret=>exact⟨_,a₁,w₁,hq,.of_steps (.one h0 zKs) harr⟩
 | panic ch=>exact⟨_,a₁,w₁,hq,.of_steps (.one h0 zKs) harr⟩
 | outgrown=>exact⟨_,a₁,w₁,hq,.of_steps (.one h0 zKs) harr⟩
end
theorem zMn {m:Nat}{P:Program}{V R:List Nat}{n n0:Nat}:∀ {ro:Option Nat} {M:Bool} (hM:M=true->ro=none) (c:Code) (D:List Nat) (I:Inf) (e:Env) (a:Act) (w:World) (Q:Exit->Env->zAw->Prop),chk P V R n c D=some I->zFU D e (zDT a)->a.tmps.size=n->Mks M n0 a.defers w.heap ->
  den P V R n n0 M c D e w.heap Q->c.wpIn (Fr ro) m P (zAk8 M n0 n R I (asg c) a w Q) a w
 | _,_,hM,.skip,D,I,e,a,w,Q,hc,ha,hz,hd,h=>by
  simp only[chk,zAm]at hc
  subst hc
  exact wpIn_skip ⟨e,h,zJs.rfl' w,hz,hd,⟨D,rfl,ha⟩,λ_ _=>rfl⟩
 | _,_,hM,.region id ops draw,D,I,e,a,w,Q,hc,ha,hz,hd,h=>by
  simp only[chk]at hc
  cases hr:zPl P V n ops draw D with
  | none=>simp[hr]at hc
  | some D' =>
   simp only[hr,zAR,zAm]at hc
   subst hc
   exact zAbU hr ha hz h λa' w' e' hs hz' hd' hag hun hk=>⟨e',hk,hs,hz',hd' ▸ hd.solid hs.solid,⟨D',rfl,hag⟩,hun⟩
 | _,_,hM,.seq x y,D,I,e,a,w,Q,hc,ha,hz,hd,h=>by
  simp only[chk]at hc
  cases hx:chk P V R n x D with
  | none=>simp[hx]at hc
  | some Ix =>
   obtain⟨nx,Ex⟩:=Ix
   simp only[hx]at hc
   simp only[den]at h
   cases nx with
   | none =>
    simp only[zAm]at hc
    subst hc
    refine wpIn_seq ?_
    cases hj:zAan x with
    | true =>
     rw[hj]at h
     refine wpIn_mono (zMn hM x D _ e a w _ hx ha hz hd (zK0.out h)) (zPU (λa' w' e' _ _ _ _ ho=>?_) (λi hi hm=>hi (by simp[asg,hm])) (λp hp=>hp))
     obtain⟨⟨d,hd',_⟩,_⟩:=ho
     cases hd'
    | false =>
     rw[hj]at h
     refine wpIn_mono (zMn hM x D _ e a w _ hx ha hz hd h) (zPU (λa' w' e' _ _ _ _ ho=>?_) (λi hi hm=>hi (by simp[asg,hm])) (λp hp=>hp))
     obtain⟨⟨d,hd',_⟩,_⟩:=ho
     cases hd'
   | some Da =>
    have hn:zRX P V R n x D=Da:=by simp[zRX,hx]
    rw[hn]at h
    cases hj:zAan x with
    | true =>
     rw[hj]at h hc
     simp only[cond_true]at h hc
     cases hy:chk P V R n y (both V (asg x) Da++rm (asg x) D) with
     | none=>simp[hy]at hc
     | some Iy =>
      obtain⟨ny,Ey⟩:=Iy
      simp only[hy,zAm]at hc
      subst hc
      refine wpIn_seq (wpIn_mono (zMn hM x D _ e a w _ hx ha hz hd h.out) (zPU (λa' w' e' hk hs hz' hd' ho=>?_) (λi hi hm=>hi (by simp[asg,hm])) (λp hp=>by simp[hp])))
      obtain⟨⟨d,hde,hag⟩,hun⟩:=ho
      cases hde
      rw[Cur.app_of (by simp)]at hk
      have hag2:zFU (both V (asg x) Da++rm (asg x) D) (mg (asg x) (both V (asg x) Da) e ((both V (asg x) Da).map e')) (zDT a'):=by
       refine zQ7 rfl ha hun (zBS λi hi=>?_)
       have:=(zAX.1 hi).2
       simp only[zAk]at this
       exact hag i (zDB.1 this.2)
      refine wpIn_mono (zMn hM y _ _ _ a' w' Q hy hag2 hz' hd' hk) ?_
      rintro ex a2 w2 ⟨e2,hq,hs2,hz2,hd2,ho2⟩
      refine⟨e2,hq,hs.trans hs2,hz2,hd2,?_⟩
      cases ex with
      | normal=>exact⟨ho2.1,λi hi=>(ho2.2 i (λhm=>hi (by simp[asg,hm]))).trans (hun i (λhm=>hi (by simp[asg,hm])))⟩
      | exit id=>exact⟨ho2.1.imp λd h=>⟨by simp[h.1],h.2⟩,λi hi=>(ho2.2 i (λhm=>hi (by simp[asg,hm]))).trans (hun i (λhm=>hi (by simp[asg,hm])))⟩
      | ret=>exact ho2
      | goto l=>exact ho2.elim
      | panic c=>exact ho2.elim
      | outgrown=>exact ho2.elim
    | false =>
     rw[hj]at h hc
     simp only[cond_false]at h hc
     cases hy:chk P V R n y Da with
     | none=>simp[hy]at hc
     | some Iy =>
      obtain⟨ny,Ey⟩:=Iy
      simp only[hy,zAm]at hc
      subst hc
      refine wpIn_seq (wpIn_mono (zMn hM x D _ e a w _ hx ha hz hd h) (zPU (λa' w' e' hk hs hz' hd' ho=>?_) (λi hi hm=>hi (by simp[asg,hm])) (λp hp=>by simp[hp])))
      obtain⟨⟨d,hde,hag⟩,hun⟩:=ho
      cases hde
      refine wpIn_mono (zMn hM y _ _ _ a' w' Q hy hag hz' hd' hk) ?_
      rintro ex a2 w2 ⟨e2,hq,hs2,hz2,hd2,ho2⟩
      refine⟨e2,hq,hs.trans hs2,hz2,hd2,?_⟩
      cases ex with
      | normal=>exact⟨ho2.1,λi hi=>(ho2.2 i (λhm=>hi (by simp[asg,hm]))).trans (hun i (λhm=>hi (by simp[asg,hm])))⟩
      | exit id=>exact⟨ho2.1.imp λd h=>⟨by simp[h.1],h.2⟩,λi hi=>(ho2.2 i (λhm=>hi (by simp[asg,hm]))).trans (hun i (λhm=>hi (by simp[asg,hm])))⟩
      | ret=>exact ho2
      | goto l=>exact ho2.elim
      | panic c=>exact ho2.elim
      | outgrown=>exact ho2.elim
 | _,_,hM,.cond c x y,D,I,e,a,w,Q,hc,ha,hz,hd,h=>by
  simp only[chk]at hc
  cases ho:zXX D c with
  | false=>rw[ho]at hc;cases hc
  | true =>
   rw[ho]at hc
   simp only[cond_true]at hc
   cases hx:chk P V R n x D with
   | none=>simp[hx]at hc
   | some Ix =>
    cases hy:chk P V R n y D with
    | none=>simp[hx,hy]at hc
    | some Iy =>
     obtain⟨nx,Ex⟩:=Ix
     obtain⟨ny,Ey⟩:=Iy
     simp only[hx,hy,zAm]at hc
     subst hc
     obtain⟨b,hb,h1,h2⟩:=h
     have hev:a.eval c = .bool b:=by
      rw[zMg,<- hb]
      cases c<;>first|rfl|exact(ha _ (zDB.1 ho)).symm
     cases b with
     | true =>
      refine wpIn_cond_true hev (wpIn_mono (zMn hM x D _ e a w Q hx ha hz hd (h1 rfl)) ?_)
      rintro ex a2 w2 ⟨e2,hq,hs2,hz2,hd2,ho2⟩
      refine⟨e2,hq,hs2,hz2,hd2,?_⟩
      cases ex with
      | normal =>
       obtain⟨⟨d,hd,hag⟩,hun⟩:=ho2
       exact⟨zPT (by simp at hd;simp[hd]) hag,λi hi=>hun i (λhm=>hi (by simp[asg,hm]))⟩
      | exit id=>exact⟨ho2.1.imp λd h=>⟨by simp[h.1],h.2⟩,λi hi=>ho2.2 i (λhm=>hi (by simp[asg,hm]))⟩
      | ret=>exact ho2
      | goto l=>exact ho2.elim
      | panic c=>exact ho2.elim
      | outgrown=>exact ho2.elim
     | false =>
      refine wpIn_cond_false hev (wpIn_mono (zMn hM y D _ e a w Q hy ha hz hd (h2 rfl)) ?_)
      rintro ex a2 w2 ⟨e2,hq,hs2,hz2,hd2,ho2⟩
      refine⟨e2,hq,hs2,hz2,hd2,?_⟩
      cases ex with
      | normal =>
       obtain⟨⟨d,hd,hag⟩,hun⟩:=ho2
       exact⟨zPT (by simp at hd;simp[hd]) hag,λi hi=>hun i (λhm=>hi (by simp[asg,hm]))⟩
      | exit id=>exact⟨ho2.1.imp λd h=>⟨by simp[h.1],h.2⟩,λi hi=>ho2.2 i (λhm=>hi (by simp[asg,hm]))⟩
      | ret=>exact ho2
      | goto l=>exact ho2.elim
      | panic c=>exact ho2.elim
      | outgrown=>exact ho2.elim
 | _,_,hM,.block id x,D,I,e,a,w,Q,hc,ha,hz,hd,h=>by
  simp only[chk]at hc
  cases hx:chk P V R n x D with
  | none=>simp[hx]at hc
  | some Ix =>
   obtain⟨nx,Ex⟩:=Ix
   simp only[hx,zAm]at hc
   subst hc
   refine wpIn_block (wpIn_mono (zMn hM x D _ e a w _ hx ha hz hd h) ?_)
   rintro ex a2 w2 ⟨e2,hq,hs2,hz2,hd2,ho2⟩
   cases ex with
   | normal =>
    obtain⟨⟨d,hd,hag⟩,hun⟩:=ho2
    exact⟨e2,hq,hs2,hz2,hd2,zPT (by simp at hd;simp[hd]) hag,hun⟩
   | exit j =>
    obtain⟨⟨d,hdm,hag⟩,hun⟩:=ho2
    simp only[Exit.inBlock]
    cases hb:Nat.beq j id with
    | true =>
     have:=zA6 hb
     subst this
     simp only[if_true]
     simp only[zZa,hb,cond_true]at hq
     exact⟨e2,hq,hs2,hz2,hd2,zPT (List.mem_append_right _ (zAbY hdm)) hag,hun⟩
    | false =>
     have hne:j≠id:=λhe=>by subst he;rw[zB2]at hb;cases hb
     rw[if_neg hne]
     simp only[zZa,hb,cond_false]at hq
     exact⟨e2,hq,hs2,hz2,hd2,⟨d,zZb hb hdm,hag⟩,hun⟩
   | ret=>exact⟨e2,hq,hs2,hz2,hd2,ho2⟩
   | goto l=>exact ho2.elim
   | panic c=>exact ho2.elim
   | outgrown=>exact ho2.elim
 | _,_,hM,.loop x,D,I,e,a,w,Q,hc,ha,hz,hd,h=>by
  simp only[chk]at hc
  cases hx:chk P V R n x (both V (asg x) D++rm (asg x) D) with
  | none=>simp[hx]at hc
  | some Ix =>
   obtain⟨nx,Ex⟩:=Ix
   simp only[hx]at hc
   cases hsub:(match nx with|some d=>zAbV (both V (asg x) D) d|none=>true) with
   | false=>simp only[hsub,cond_false,reduceCtorEq]at hc
   | true =>
    simp only[hsub,cond_true,zAm]at hc
    subst hc
    simp only[den]at h
    obtain⟨J,μ,h0,hr⟩:=h
    have hmapL:∀ (f g:Env),zFU D f g->(both V (asg x) D).map f=(both V (asg x) D).map g:=λf g hfg=>zBS λi hi=>by
     have:=(zAX.1 hi).2
     simp only[zAk]at this
     exact hfg i (zDB.1 this.2)
    refine wpIn_loop (λa' w'=>zJs w w'/\a'.tmps.size=n/\Mks _ _ a'.defers w'.heap/\(∀ i,i∉asg x->zDT a' i=zDT a i)/\J ((both V (asg x) D).map (zDT a')) w'.heap)
     (λa' w'=>μ ((both V (asg x) D).map (zDT a')) w'.heap) ⟨zJs.rfl' w,hz,hd,λ_ _=>rfl,by rw[<- hmapL e (zDT a) ha];exact h0⟩ ?_
    rintro a' w' ⟨hs,hz',hd',hun,hJ⟩
    have hb:=hr _ _ (by simp) hJ
    rw[Cur.app_of (by simp)]at hb
    have hag:zFU (both V (asg x) D++rm (asg x) D) (mg (asg x) (both V (asg x) D) e ((both V (asg x) D).map (zDT a'))) (zDT a'):=zQ7 rfl ha hun rfl
    refine wpIn_mono (zMn hM x _ _ _ a' w' _ hx hag hz' hd' hb) ?_
    rintro ex a2 w2 ⟨e2,hq,hs2,hz2,hd2,ho2⟩
    cases ex with
    | normal =>
     obtain⟨⟨d,hde,hag2⟩,hun2⟩:=ho2
     simp only at hde
     subst hde
     simp only[zWJ]at hq
     rw[Cur.app_of (by simp)]at hq
     have em:(both V (asg x) D).map e2=(both V (asg x) D).map (zDT a2):=zBS λi hi=>hag2 i (zDB.1 (zAy.1 hsub i hi))
     rw[em]at hq
     exact⟨⟨hs.trans hs2,hz2,hd2,λi hi=>(hun2 i hi).trans (hun i hi),hq.1⟩,hq.2⟩
    | exit id=>exact⟨e2,hq,hs.trans hs2,hz2,hd2,ho2.1,λi hi=>(ho2.2 i hi).trans (hun i hi)⟩
    | ret=>exact⟨e2,hq,hs.trans hs2,hz2,hd2,ho2⟩
    | goto l=>exact ho2.elim
    | panic c=>exact ho2.elim
    | outgrown=>exact ho2.elim
 | _,_,hM,.exit id,D,I,e,a,w,Q,hc,ha,hz,hd,h=>by
  simp only[chk,zAm]at hc
  subst hc
  exact wpIn_exit ⟨e,h,zJs.rfl' w,hz,hd,⟨D,by simp,ha⟩,λ_ _=>rfl⟩
 | _,_,hM,.ret,D,I,e,a,w,Q,hc,ha,hz,hd,h=>by
  simp only[chk]at hc
  cases hs:zAbV R D with
  | false=>rw[hs]at hc;cases hc
  | true =>
   rw[hs]at hc
   exact wpIn_ret ⟨e,h,zJs.rfl' w,hz,hd,λi hi=>ha i (zDB.1 (zAy.1 hs i hi))⟩
 | ro,M,hM,.rangeFunc g ps as b,D,I,e,a,w,Q,hc,ha,hz,hd,h=>by
  simp only[chk]at hc
  cases hcond:(zXX D g&&ps.toList.all (λp=>Nat.ble (p+1) n)&&(!zNa b || zAbV R D)) with
  | false=>rw[hcond]at hc;cases hc
  | true =>
   rw[hcond]at hc
   simp only[cond_true]at hc
   simp only[zAk]at hcond
   obtain⟨⟨hg,hps⟩,hret⟩:=hcond
   cases hcas:chk P V R n as (ps.toList++D) with
   | none=>simp[hcas]at hc
   | some Ias =>
   obtain⟨nas,Eas⟩:=Ias
   cases nas with
   | none=>simp[hcas]at hc
   | some Da =>
   have hnrm:zRX P V R n as (ps.toList++D)=Da:=by simp[zRX,hcas]
   simp only[hcas]at hc
   cases hb:chk P V R n b Da with
   | none=>simp[hb]at hc
   | some Ib =>
    simp only[hb,zAm]at hc
    subst hc
    cases M with
    | false=>simp[den]at h
    | true =>
     have hro:=hM rfl
     subst hro
     simp only[den,cond_true,hnrm]at h
     obtain⟨hn0,h⟩:=h
     refine wpIn_rangeFunc λfn _=>?_
     obtain⟨rec,hrec⟩:∃ rec:Loop,rec = { state := .ready,pending:=none,fn,tmps:=a.tmps,params:=ps,assign:=as,body:=b,defers:=w.heap.size }:=⟨_,rfl⟩
     have hev:a.eval g=ev e g:=by
      rw[zMg]
      cases g<;>first|rfl|exact(ha _ (zDB.1 hg)).symm
     have hcall:=h rec (by rw[hrec]) (by rw[hrec]) ?_
     ·obtain⟨f,fi,ca,hf,hbody,hcall⟩:=hcall
      obtain⟨fnn,cc,hff,hfb,hname⟩:=zPj hbody
      have hent:∀ args w,(callFunc f args).run P w = .ok (.enter f args) w:=λargs w=>by
       simp only[callFunc,Sem.run_bind,run_program,Result.andThen_ok,hff,hname,hfb];simp
      obtain⟨w1,hw1⟩:∃ w1,(w.alloc (.deferred (some []))).alloc (.loop rec)=w1:=⟨_,rfl⟩
      have hheap:w1.heap=(w.heap.push (.deferred (some []))).push (.loop rec):=by rw[<- hw1];rfl
      have hs1:zJs w w1:=by rw[<- hw1];exact⟨rfl,rfl,rfl,zFT.push.trans zFT.push⟩
      have hk1:w1.heap[w.heap.size]? = some (.deferred (some [])):=by rw[hheap,zCc,if_neg (by simp)];simp
      refine⟨w.heap.size+1,[{ target := .collected w.heap.size,args:=#[] }],w1,{ target := .fn (.func f) ca,args:=fi++#[.func (.yield (w.heap.size+1)) #[] #[]] },w1,f,(fi++#[.func (.yield (w.heap.size+1)) #[] #[]])++ca,w1,?_,?_,λ_ _=>trivial,?_,λh=>(by cases h),?_⟩
      ·rw[<- hw1,hrec];exact run_enterLoop_outer _ _ _ _ _
      ·simp only[resolve,hev,hf,Deferred.ofValue]
       simp[Act.eval]
      ·simp only[invoke,hent]
      ·have e1:(fi.toList++[Value.func (.yield (w.heap.size+1)) #[] #[]]++ca.toList).toArray=(fi++#[.func (.yield (w.heap.size+1)) #[] #[]])++ca:=by apply Array.ext';simp
       have hc1:=hcall w1 hheap
       rw[e1]at hc1
       refine zRU (hc1.mono ?_)
       rintro en w3 ⟨v,rfl,hs3,r',hr',hst,hrest⟩
       have hmk:Mks true n0 ({ target := .collected w.heap.size,args:=#[] } :: a.defers) w3.heap:=by
        refine⟨λh=>(by cases h),.cons (λd hd' he=>?_) hd.2.1,λd hd'=>?_⟩
        ·obtain⟨r,h1,_,h3⟩:=hd.2.2 d hd'
         rw[h1]at he
         cases he
         simp at h3
        ·rcases zAr.1 hd' with rfl|hd'
         ·exact⟨_,rfl,hn0,hs3.solid _ _ hk1⟩
         ·obtain⟨r,h1,h2,h3⟩:=hd.2.2 d hd'
          exact⟨r,h1,h2,hs3.solid _ _ (hs1.solid _ _ h3)⟩
       have hsl:zFT w3.heap (w3.heap.setIfInBounds (w.heap.size+1) (.loop { r' with state := .exhausted })):=zFT.setL hr'
       obtain⟨w4,hw4⟩:∃ w4,w4=w3.putObj (w.heap.size+1) (.loop { r' with state := .exhausted }):=⟨_,rfl⟩
       have hs4:zJs w w4:=by rw[hw4];exact hs1.trans (hs3.trans ⟨rfl,rfl,rfl,hsl⟩)
       have hmk4:Mks true n0 ({ target := .collected w.heap.size,args:=#[] } :: a.defers) w4.heap:=by rw[hw4];exact hmk.solid hsl
       have hrest4:zX1 (zNa b) Q e (zAbX (chk P V R n b Da)) r'.pending w4.heap:=by rw[hw4];exact hrest
       refine⟨r'.pending,w4,by rw[hw4];exact run_endLoop hr' hst,?_⟩
       clear hrest hw4
       rcases zWK hrest4 with ⟨hj,hq⟩|⟨hj,hrt,hq⟩|⟨id,hj,hid,hq⟩
       ·rw[hj];exact⟨e,hq,hs4,hz,hmk4,⟨D,rfl,ha⟩,λ_ _=>rfl⟩
       ·rw[hj]
        rw[hrt]at hret
        exact wpIn_ret ⟨e,hq,hs4,hz,hmk4,λi hi=>ha i (zDB.1 (zAy.1 hret i hi))⟩
       ·rw[hj]
        rw[hb]at hid
        obtain⟨d,hd'⟩:=zAbZ hid
        exact wpIn_exit ⟨e,hq,hs4,hz,hmk4,⟨D,zAo.2 ⟨(id,d),hd',rfl⟩,ha⟩,λ_ _=>rfl⟩
     ·intro args hh k hl hB wy hwy
      subst hwy
      obtain⟨hlen,hB⟩:=hB
      have hy:=run_yield (P:=P) (args:=args.toArray) hl (by rw[hrec];simpa using hlen)
      rw[hrec]at hy
      refine⟨fn,_,as,b,hy,?_⟩
      have hag:zFU (ps.toList++D) (zX2 ps.toList 0 args e) (zDT { tmps:=(ps.zip args.toArray).foldl (λt (p,v)=>t.setIfInBounds p v) a.tmps,defers:=[] }):=zX4 hz hps (by simpa using hlen) ha
      have hz2:((ps.zip args.toArray).foldl (λt (p,v)=>t.setIfInBounds p v) a.tmps).size=n:=by rw[zX3];exact hz
      have hr0:=roundIn_of_wpIn (F:=Fr none) (n:=0) (P:=P) (l:=w.heap.size+1) (f:=fn) (tmps:=(ps.zip args.toArray).foldl (λt (p,v)=>t.setIfInBounds p v) a.tmps) (assign:=as) (body:=b) (w:=wy)
       (R:=λen w'=>∃ v,en = .returned v/\zJs wy w'/\k v w'.heap) trivial (wpIn_mono (zMn (ro:=some (w.heap.size+1)) (M:=false) (λh=>(by cases h)) as _ _ _ { tmps:=(ps.zip args.toArray).foldl (λt (p,v)=>t.setIfInBounds p v) a.tmps,defers:=[] } wy _ hcas hag hz2 Mks.nil hB) ?_)
      ·exact hr0
      ·rintro ex1 a1 w1 ⟨e1,hq1,hs1,hz1,hd1,ho1⟩
       cases ex1 with
       | exit id=>exact hq1.elim
       | ret=>exact hq1.elim
       | goto l=>exact hq1.elim
       | panic c=>exact hq1.elim
       | outgrown=>exact hq1.elim
       | normal =>
       obtain⟨⟨d1,hd1',hag1⟩,_⟩:=ho1
       simp only[zAm]at hd1'
       subst hd1'
       obtain⟨r1,hl1,hst1,hB1⟩:=hq1
       have hsl:zFT w1.heap (w1.heap.setIfInBounds (w.heap.size+1) (.loop { r1 with state := .busy })):=zFT.setL hl1
       refine⟨_,run_beginRound (P:=P) hl1 hst1,?_⟩
       refine wpIn_mono (zMn (ro:=some (w.heap.size+1)) (M:=false) (λh=>(by cases h)) b _ _ _ a1 (w1.putObj (w.heap.size+1) (.loop { r1 with state := .busy })) _ hb hag1 hz1 (hd1.solid hsl) hB1) ?_
       rintro ex a2 w2 ⟨e2,hq,hs2,_,_,ho⟩
       have fin:∀ j:Option Code,(∃ r',w2.heap[w.heap.size+1]? = some (.loop r')/\k (.bool j.isNone) (w2.heap.setIfInBounds (w.heap.size+1) (.loop { r' with state:=if j.isNone then .ready else .done,pending:=j }))) ->
         ∃ v w',(Instr.endRound (w.heap.size+1) j).run P w2 = .ok v w'/\∃ v',Ending.returned v = .returned v'/\zJs wy w'/\k v' w'.heap:=by
        rintro j ⟨r',hr',hk'⟩
        have hsa:zJs wy (w1.putObj (w.heap.size+1) (.loop { r1 with state := .busy })):=hs1.trans ⟨rfl,rfl,rfl,hsl⟩
        have hsb:zJs w2 (w2.putObj (w.heap.size+1) (.loop { r' with state:=if j.isNone then .ready else .done,pending:=j })):=⟨rfl,rfl,rfl,zFT.setL hr'⟩
        exact⟨_,_,run_endRound j hr',_,rfl,hsa.trans (hs2.trans hsb),hk'⟩
       cases ex with
       | normal=>exact fin none hq
       | ret=>exact fin (some .ret) hq
       | exit id=>exact fin (some (.exit id)) hq
       | goto l=>exact ho.elim
       | panic c=>exact ho.elim
       | outgrown=>exact ho.elim
 | _,_,hM,.scope x,D,I,e,a,w,Q,hc,ha,hz,hd,h=>by
  simp only[chk]at hc
  simp only[den]at h
  refine zAao (zMn hM x D I e a w Q hc ha hz hd h) λl a' w' hq=>?_
  obtain⟨e',_,_,_,_,ho⟩:=hq
  exact ho.elim
 | _,_,hM,.label l,D,I,e,a,w,Q,hc,ha,hz,hd,h=>by
  simp only[chk,zAm]at hc
  subst hc
  simp only[den]at h
  exact wpIn_label ⟨e,h,zJs.rfl' w,hz,hd,⟨D,rfl,ha⟩,λ_ _=>rfl⟩
 | _,_,hM,.goto l,D,I,e,a,w,Q,hc,ha,hz,hd,h=>by simp[den]at h
 | _,_,hM,.refuse l,D,I,e,a,w,Q,hc,ha,hz,hd,h=>by simp[den]at h
def zAap (P:Program):List ResultVar->Env->zAw->(List Value->Prop)->Prop
 | [],_,_,k=>k []
 | .tmp t::r,e,H,k=>zAap P r e H λvs=>k (e t::vs)
 | .cell t T::r,e,H,k=>bif zMV P T then Mpu (ldN (P.cellsOf T) H (e t)) (λv=>zAap P r e H λvs=>k (v::vs)) else
   bif zAbh P T then Mpu (ld1 H (e t)) (λv=>zAap P r e H λvs=>k (v::vs)) else False
def zWL:List Value->Value
 | [v]=>v
 | vs => .tuple vs.toArray
def zGR:List ResultVar->List Nat
 | []=>[]
 | .tmp t::r=>t::zGR r
 | .cell t _::r=>t::zGR r
def zAbk:Nat->List Nat
 | 0=>[]
 | n+1=>n::zAbk n
def zAf8 (args:List Value):Env:=λi=>args.getD i undef
def zAl4 (P:Program)(fn:Func)(R:zAn):Exit->Env->zAw->Prop
 | .normal,e,H=>zAap P fn.results.toList e H λvs=>R (zWL vs) H
 | .ret,e,H=>zAap P fn.results.toList e H λvs=>R (zWL vs) H
 | _,_,_=>False
def zOI (n0:Nat)(h h':zAw):Prop:=h'.size=h.size/\(∀ i:Nat,i<n0->h'[i]? = h[i]?)/\∀ (i:Nat) (x:Obj),h[i]? = some x->(∀ ds:Option (List Deferred),x≠Obj.deferred ds)->h'[i]? = some x
def Mcl (n0:Nat)(h:zAw)(k:zAw->Prop):Prop:=∀ h',zOI n0 h h'->k h'
def zAl5 (P:Program)(n0:Nat)(fn:Func)(R:zAn):Exit->Env->zAw->Prop
 | .normal,e,H=>Mcl n0 H λH=>zAap P fn.results.toList e H λvs=>R (zWL vs) H
 | .ret,e,H=>Mcl n0 H λH=>zAap P fn.results.toList e H λvs=>R (zWL vs) H
 | _,_,_=>False
def zAkQ (P:Program)(V:List Nat)(fn:Func)(args:List Value)(H:zAw)(R:zAn):Prop :=
 match fn.body with
 | some c=>bif zUz c then den P V (zGR fn.results.toList) fn.ntmps H.size true c (zAbk args.length) (zAf8 args) H (zAl5 P H.size fn R)
  else den P V (zGR fn.results.toList) fn.ntmps 0 false c (zAbk args.length) (zAf8 args) H (zAl4 P fn R)
 | none=>False
def zAkR (P:Program)(V:List Nat)(fn:Func)(nargs:Nat):Bool :=
 match fn.body with
 | some c=>Nat.ble nargs fn.ntmps&&(match chk P V (zGR fn.results.toList) fn.ntmps c (zAbk nargs) with
  | some ⟨some d,_⟩=>zAbV (zGR fn.results.toList) d
  | some ⟨none,_⟩=>true
  | none=>false)
 | none=>false
theorem zAeu {n i:Nat}:i∈zAbk n↔i<n:=by
 induction n with
 | zero=>simp[zAbk]
 | succ n ih=>simp only[zAbk,zAr,ih];omega
theorem zVE {P:Program}{w:World}{tmps:Array Value}:∀ {l:List ResultVar} {e:Env} {k:List Value->Prop},(∀ i,i∈zGR l->e i=tmps.getD i undef)->zAap P l e w.heap k ->
  ∃ vs,k vs/\∀ g:ResultVar->Sem Value,(∀ t,g (.tmp t)=pure (tmps.getD t undef))->(∀ a t,g (.cell a t)=do loadVar t (<- asAddr (tmps.getD a undef)))->(l.mapM g).run P w = .ok vs w
 | [],e,k,_,h=>⟨[],h,by simp⟩
 | .tmp t::r,e,k,ha,h=>by
  obtain⟨vs,hk,hr⟩:=zVE (l:=r) (λi hi=>ha i (by simp[zGR,hi])) h
  refine⟨_,hk,λg hg1 hg2=>?_⟩
  rw[List.mapM_cons,hg1]
  simp only[Sem.run_bind,Sem.run_pure,Result.andThen_ok,hr g hg1 hg2]
  rw[ha t (by simp[zGR])]
 | .cell t T::r,e,k,ha,h=>by
  simp only[zAap]at h
  have key:∀ v:Value,(Instr.loadAt T (e t)).run P w = .ok v w->(zAap P r e w.heap λvs=>k (v::vs))->∃ vs,k vs/\∀ g:ResultVar->Sem Value,(∀ t,g (.tmp t)=pure (tmps.getD t undef))->(∀ a t,g (.cell a t)=do loadVar t (<- asAddr (tmps.getD a undef)))->((ResultVar.cell t T::r).mapM g).run P w = .ok vs w:=by
   intro v hv hh
   obtain⟨vs,hk,hr⟩:=zVE (l:=r) (λi hi=>ha i (by simp[zGR,hi])) hh
   refine⟨_,hk,λg hg1 hg2=>?_⟩
   rw[List.mapM_cons,hg2]
   have hl:(do loadVar T (<- asAddr (tmps.getD t undef)):Sem Value).run P w = .ok v w:=by
    rw[<- ha t (by simp[zGR])]
    revert hv
    cases e t<;>simp only[Instr.loadAt,Instr.sureAddr,asAddr]<;>first|(intro hv;simp at hv;done)|skip
    rename_i o
    cases o<;>simp[Instr.sureAddr,asAddr]
   rw[Sem.run_bind,hl]
   simp only[Result.andThen_ok,Sem.run_bind,hr g hg1 hg2,Sem.run_pure]
  cases hagg:zMV P T with
  | true =>
   rw[hagg]at h
   obtain⟨v,hv,hh⟩:=h
   exact key v (zWp hagg hv w rfl) hh
  | false =>
   cases hs:zAbh P T with
   | true =>
    rw[hagg,hs]at h
    obtain⟨v,hv,hh⟩:=h
    exact key v (zWo (zTp hs).1 hagg hv w rfl) hh
   | false=>rw[hagg,hs]at h;exact h.elim
theorem zTA {P:Program}{w:World}{fn:Func}{tmps:Array Value}{e:Env}{k:List Value->Prop}(ha:∀ i,i∈zGR fn.results.toList->e i=tmps.getD i undef)(h:zAap P fn.results.toList e w.heap k) :
  ∃ vs,k vs/\(results fn tmps).run P w = .ok (zWL vs) w:=by
 unfold results
 rw[Sem.run_bind,Array.mapM_eq_mapM_toList,Sem.run_map]
 obtain⟨vs,hk,hr⟩:=zVE ha h
 refine⟨vs,hk,?_⟩
 rw[hr]
 rotate_left
 ·intro t;rfl
 ·intro a t;rfl
 simp only[Result.andThen_ok,Sem.run_pure]
 congr 1
 match vs with
 | []=>rfl
 | [v]=>rfl
 | v::v'::vs=>simp[zWL]
theorem zOI.refl {n0:Nat}{h:zAw}:zOI n0 h h:=⟨rfl,λ_ _=>rfl,λ_ _ h _=>h⟩
theorem zSD {P:Program}{m:Nat}{fn:Func}{tmps:Array Value}{w0:World}{R:Ending->World->Prop}:∀ {df:List Deferred} {w:World},df.Pairwise (λx y=>x.target≠y.target)->(∀ d∈df,∃ r,d.target = .collected r/\w0.heap.size<=r/\w.heap[r]? = some (.deferred (some [])))->zJs w0 w ->
  (∀ w2,zOI w0.heap.size w.heap w2.heap->zJs w0 w2->LeavesIn (Fr none) m P fn tmps R [] .returning w2)->LeavesInM (Fr none) m P fn tmps R df .returning w
 | [],w,_,_,hs,h=>h w zOI.refl hs
 | d::df,w,hp,hm,hs,h=>by
  obtain⟨r,h1,h2,h3⟩:=hm d (by simp)
  have hp':=zCd.1 hp
  have hs':zJs w0 (w.putObj r (.deferred none)):=⟨hs.os,hs.tape,hs.output,λi ds hi=>by
   rw[World.putObj_heap_other (by have:=(zBg.1 hi).1;omega)];exact hs.solid i ds hi⟩
  refine⟨by simp,.inl ⟨r,_,h1,run_takeDeferred h3,zSD (w0:=w0) hp'.2 (λd' hd'=>?_) hs' λw2 hc hs2=>h w2 ?_ hs2⟩⟩
  ·obtain⟨r',k1,k2,k3⟩:=hm d' (by simp[hd'])
   refine⟨r',k1,k2,?_⟩
   rw[World.putObj_heap_other (λhe=>hp'.1 d' hd' (by rw[h1,k1,he]))];exact k3
  ·obtain⟨c1,c2,c3⟩:=hc
   refine⟨by rw[c1];simp,λi hi=>by rw[c2 i hi,World.putObj_heap_other (by omega)],λi x hx hn=>c3 i x ?_ hn⟩
   rw[World.putObj_heap_other (λhe=>by subst he;rw[h3]at hx;cases hx;exact hn _ rfl)];exact hx
theorem zAev {P:Program}{f:FuncId}{fn:Func}{V:List Nat}{args:List Value}{H:zAw}{R:zAn}(hf:P.funcs[f]? = some fn)(hc:zAkR P V fn args.length=true)(h:zAkQ P V fn args H R):zAz P f args H R:=by
 intro w hw
 subst hw
 unfold zAkR at hc
 unfold zAkQ at h
 cases hb:fn.body with
 | none=>simp[hb]at h
 | some c =>
  simp only[hb,zAk]at hc h
  obtain⟨hle,hc⟩:=hc
  have hle:=zC6 hle
  cases hI:chk P V (zGR fn.results.toList) fn.ntmps c (zAbk args.length) with
  | none=>simp[hI]at hc
  | some I =>
   simp only[hI]at hc
   have hA:zFU (zAbk args.length) (zAf8 args) (zDT { tmps:=args.toArray++Array.replicate (fn.ntmps-args.toArray.size) undef,defers:=[] }):=by
    intro i hi
    have hi:=zAeu.1 hi
    simp[zAf8,zDT,Array.getElem?_append,hi]
   have hZ:(args.toArray++Array.replicate (fn.ntmps-args.toArray.size) undef).size=fn.ntmps:=by simp;omega
   cases hrf:zUz c with
   | false =>
    rw[hrf]at h
    simp only[cond_false]at h
    refine(callsIn_wide (n:=0)).1 (callsIn_of_wp (F:=Fr none) hf hb trivial ?_)
    refine wpIn_mono (zMn (M:=false) (λh=>(by cases h)) c _ I (zAf8 args) { tmps:=args.toArray++Array.replicate (fn.ntmps-args.toArray.size) undef,defers:=[] } w _ hI hA hZ Mks.nil h) ?_
    rintro ex a' w' ⟨e',hq,hs,hz,hd,ho⟩
    have hd:=hd.1 rfl
    have fin:∀ e':Env,zFU (zGR fn.results.toList) e' (zDT a')->(zAap P fn.results.toList e' w'.heap λvs=>R (zWL vs) w'.heap)->∃ v,(results fn a'.tmps).run P w' = .ok v w'/\∃ v',Ending.returned v = .returned v'/\zJs w w'/\R v' w'.heap:=by
     intro e' hag hres
     obtain⟨vs,hR,hr⟩:=zTA (fn:=fn) (tmps:=a'.tmps) (λi hi=>hag i hi) hres
     exact⟨_,hr,_,rfl,hs,hR⟩
    cases ex with
    | normal =>
     obtain⟨⟨d,hde,hag⟩,_⟩:=ho
     obtain⟨nrm,exs⟩:=I
     simp only at hde
     subst hde
     simp only at hc
     exact⟨hd,fin e' (λi hi=>hag i (zDB.1 (zAy.1 hc i hi))) hq⟩
    | ret=>exact⟨hd,fin e' ho hq⟩
    | exit id=>exact hq.elim
    | goto l=>exact hq.elim
    | panic c=>exact hq.elim
    | outgrown=>exact hq.elim
   | true =>
    rw[hrf]at h
    simp only[cond_true]at h
    refine(callsIn_wide (n:=0)).1 (callsIn_of_wp_marks (F:=Fr none) hf hb trivial ?_)
    refine wpIn_mono (zMn (M:=true) (λ_=>rfl) c _ I (zAf8 args) { tmps:=args.toArray++Array.replicate (fn.ntmps-args.toArray.size) undef,defers:=[] } w _ hI hA hZ Mks.nil h) ?_
    rintro ex a' w' ⟨e',hq,hs,hz,hd,ho⟩
    have fin:∀ e':Env,zFU (zGR fn.results.toList) e' (zDT a')->(Mcl w.heap.size w'.heap λH=>zAap P fn.results.toList e' H λvs=>R (zWL vs) H) ->
      LeavesInM (Fr none) 0 P fn a'.tmps (λe w'=>∃ v,e = .returned v/\zJs w w'/\R v w'.heap) a'.defers .returning w':=by
     intro e' hag hres
     refine zSD hd.2.1 hd.2.2 hs λw2 hcl hs2=>?_
     obtain⟨vs,hR,hr⟩:=zTA (fn:=fn) (tmps:=a'.tmps) (w:=w2) (λi hi=>hag i hi) (hres _ hcl)
     exact⟨_,hr,_,rfl,hs2,hR⟩
    cases ex with
    | normal =>
     obtain⟨⟨d,hde,hag⟩,_⟩:=ho
     obtain⟨nrm,exs⟩:=I
     simp only at hde
     subst hde
     simp only at hc
     exact fin e' (λi hi=>hag i (zDB.1 (zAy.1 hc i hi))) hq
    | ret=>exact fin e' ho hq
    | exit id=>exact hq.elim
    | goto l=>exact hq.elim
    | panic c=>exact hq.elim
    | outgrown=>exact hq.elim
def J0 (body:(zAw->Prop)->Prop)(rest:zAw->Prop):Prop:=zK0 0 body rest
@[simp] theorem zAb0 {body:(zAw->Prop)->Prop}{rest:zAw->Prop}:J0 body rest↔body rest:=zGo
def L0 (body:(zAw->Prop)->zAw->Prop)(H:zAw):Prop:=zVw 0 body [] H
def J1 (body:(zAn)->Prop)(rest:zAn):Prop:=zK0 1 body rest
@[simp] theorem zBQ {body:(zAn)->Prop}{rest:zAn}:J1 body rest↔body rest:=zGo
def L1 (body:(zAn)->zAn)(x:Value)(H:zAw):Prop:=zVw 1 body [x] H
def J2 (body:(Value->zAn)->Prop)(rest:Value->zAn):Prop:=zK0 2 body rest
@[simp] theorem zAb1 {body:(Value->zAn)->Prop}{rest:Value->zAn}:J2 body rest↔body rest:=zGo
def L2 (body:(Value->zAn)->Value->zAn)(x y:Value)(H:zAw):Prop:=zVw 2 body [x,y] H
def J3 (body:(Value->Value->zAn)->Prop)(rest:Value->Value->zAn):Prop:=zK0 3 body rest
@[simp] theorem zAk9 {body:(Value->Value->zAn)->Prop}{rest:Value->Value->zAn}:J3 body rest↔body rest:=zGo
def L3 (body:(Value->Value->zAn)->Value->Value->zAn)(x y z:Value)(H:zAw):Prop:=zVw 3 body [x,y,z] H
def J4 (body:(Value->Value->Value->zAn)->Prop)(rest:Value->Value->Value->zAn):Prop:=zK0 4 body rest
@[simp] theorem zAmH {body:(Value->Value->Value->zAn)->Prop}{rest:Value->Value->Value->zAn}:J4 body rest↔body rest:=zGo
def L4 (body:(Value->Value->Value->zAn)->Value->Value->Value->zAn)(x y z u:Value)(H:zAw):Prop:=zVw 4 body [x,y,z,u] H
def J5 (body:(Value->Value->Value->Value->zAn)->Prop)(rest:Value->Value->Value->Value->zAn):Prop:=zK0 5 body rest
@[simp] theorem zAla {body:(Value->Value->Value->Value->zAn)->Prop}{rest:Value->Value->Value->Value->zAn}:J5 body rest↔body rest:=zGo
def L5 (body:(Value->Value->Value->Value->zAn)->Value->Value->Value->Value->zAn)(x y z u v:Value)(H:zAw):Prop:=zVw 5 body [x,y,z,u,v] H
def J6 (body:(Value->Value->Value->Value->Value->zAn)->Prop)(rest:Value->Value->Value->Value->Value->zAn):Prop:=zK0 6 body rest
@[simp] theorem zAmI {body:(Value->Value->Value->Value->Value->zAn)->Prop}{rest:Value->Value->Value->Value->Value->zAn}:J6 body rest↔body rest:=zGo
def J7 (body:(Value->Value->Value->Value->Value->Value->zAn)->Prop)(rest:Value->Value->Value->Value->Value->Value->zAn):Prop:=zK0 7 body rest
@[simp] theorem zAmJ {body:(Value->Value->Value->Value->Value->Value->zAn)->Prop}{rest:Value->Value->Value->Value->Value->Value->zAn}:J7 body rest↔body rest:=zGo
def J8 (body:(Value->Value->Value->Value->Value->Value->Value->zAn)->Prop)(rest:Value->Value->Value->Value->Value->Value->Value->zAn):Prop:=zK0 8 body rest
@[simp] theorem zAmK {body:(Value->Value->Value->Value->Value->Value->Value->zAn)->Prop}{rest:Value->Value->Value->Value->Value->Value->Value->zAn}:J8 body rest↔body rest:=zGo
def L8 (body:(Value->Value->Value->Value->Value->Value->Value->zAn)->Value->Value->Value->Value->Value->Value->Value->zAn)(x0 x1 x2 x3 x4 x5 x6 x7:Value)(H:zAw):Prop:=zVw 8 body [x0,x1,x2,x3,x4,x5,x6,x7] H
def J9 (body:(Value->Value->Value->Value->Value->Value->Value->Value->zAn)->Prop)(rest:Value->Value->Value->Value->Value->Value->Value->Value->zAn):Prop:=zK0 9 body rest
@[simp] theorem zAlb {body:(Value->Value->Value->Value->Value->Value->Value->Value->zAn)->Prop}{rest:Value->Value->Value->Value->Value->Value->Value->Value->zAn}:J9 body rest↔body rest:=zGo
def J10 (body:(Value->Value->Value->Value->Value->Value->Value->Value->Value->zAn)->Prop)(rest:Value->Value->Value->Value->Value->Value->Value->Value->Value->zAn):Prop:=zK0 10 body rest
@[simp] theorem zAl6 {body:(Value->Value->Value->Value->Value->Value->Value->Value->Value->zAn)->Prop}{rest:Value->Value->Value->Value->Value->Value->Value->Value->Value->zAn}:J10 body rest↔body rest:=zGo
def J11 (body:(Value->Value->Value->Value->Value->Value->Value->Value->Value->Value->zAn)->Prop)(rest:Value->Value->Value->Value->Value->Value->Value->Value->Value->Value->zAn):Prop:=zK0 11 body rest
@[simp] theorem zAl7 {body:(Value->Value->Value->Value->Value->Value->Value->Value->Value->Value->zAn)->Prop}{rest:Value->Value->Value->Value->Value->Value->Value->Value->Value->Value->zAn}:J11 body rest↔body rest:=zGo
def J12 (body:(Value->Value->Value->Value->Value->Value->Value->Value->Value->Value->Value->zAn)->Prop)(rest:Value->Value->Value->Value->Value->Value->Value->Value->Value->Value->Value->zAn):Prop:=zK0 12 body rest
@[simp] theorem zAl8 {body:(Value->Value->Value->Value->Value->Value->Value->Value->Value->Value->Value->zAn)->Prop}{rest:Value->Value->Value->Value->Value->Value->Value->Value->Value->Value->Value->zAn}:J12 body rest↔body rest:=zGo
end Go.X
