import Derived.Test.YticdfkoncnnmmaaGreatDoorGC
import Derived.RangeFuncRecord
set_option linter.unusedSimpArgs false
set_option linter.unusedVariables false
namespace Go.X
def zBN (a:Act):Env:=fun i=>a.tmps.getD i undef
theorem zJG (a:Act):a.eval=ev (zBN a):=by
 funext x;cases x <;> rfl
theorem zTt {a:Act}{d:Option Nat}{v:Value}(h:∀ t,d=some t->t<a.tmps.size):zBN (a.put d v)=(zBN a).put d v:=by
 cases d with
 | none=>rfl
 | some d =>
  have hd:=h d rfl
  funext i
  by_cases hi:i=d
  ·subst hi
   rw[zLc]
   simp[zBN,Act.put,hd]
  ·rw[zHf (by simpa using fun h=>hi h.symm)]
   simp[zBN,Act.put,Array.getElem?_setIfInBounds_ne (Ne.symm hi)]
theorem zVK {a:Act}{d:Option Nat}{v:Value}:(a.put d v).tmps.size=a.tmps.size:=by
 cases d <;> simp[Act.put]
theorem zQo {a:Act}{d:Option Nat}{v:Value}:(a.put d v).defers=a.defers:=by
 cases d <;> rfl
theorem zRF {ops:Array Oper}{o:Oper}{a:Act}{b:Bool}(h:act ops o (zBN a)=some b):Region.wanted o (yielded ops a.tmps)=b:=by
 unfold act at h
 unfold Region.wanted
 cases hg:o.guard with
 | none=>simp only[hg,Option.some.injEq]at h ⊢;exact h
 | some g =>
  obtain⟨j,want⟩:=g
  simp only[hg]at h ⊢
  cases ht:(ops[j]?).bind (·.dst) with
  | none=>simp[ht]at h
  | some t =>
   simp only[ht]at h
   by_cases hbb:∃ b',zBN a t = .bool b'
   ·obtain⟨b',hv⟩:=hbb
    rw[hv]at h
    simp only[Option.some.injEq]at h
    have:a.tmps[t]? = some (.bool b'):=by
     unfold zBN at hv
     rw[Array.getD_eq_getD_getElem?]at hv
     cases hq:a.tmps[t]? with
     | none=>rw[hq]at hv;cases hv
     | some x=>rw[hq]at hv;simp only[Option.getD_some]at hv;rw[hv]
    unfold yielded
    rw[ht]
    simp only[Option.bind_some,this]
    rw[<- h]
    cases b' <;> cases want <;> rfl
   ·have hb:b=false:=by
     cases hv:zBN a t <;> simp_all
    subst hb
    have:yielded ops a.tmps j=none:=by
     unfold yielded
     rw[ht]
     simp only[Option.bind_some]
     cases hq:a.tmps[t]? with
     | none=>rfl
     | some x =>
      have hx:zBN a t=x:=by unfold zBN;rw[Array.getD_eq_getD_getElem?,hq];rfl
      cases x <;> first
       | rfl
       | exact absurd ⟨_,hx⟩ hbb
    rw[this]
    cases want <;> rfl
def zUD (n:Nat)(o:Oper):Bool:=(match o.dst with | some d=>decide (d<n) | none=>true) && (match o.op with | .select _ _=>false | _=>true)
theorem zAaB {n:Nat}{o:Oper}(h:zUD n o=true):∀ t,o.dst=some t->t<n:=by
 intro t ht
 simp only[zUD,ht,Bool.and_eq_true,decide_eq_true_eq]at h
 exact h.1
theorem zOp {n:Nat}{o:Oper}(h:zUD n o=true):∀ cs b,o.op ≠ .select cs b:=by
 intro cs b he
 simp[zUD,he]at h
theorem zMB {P:Program}{f:FuncId}(h:zMv P f=true):∃ fn c,P.funcs[f]? = some fn/\fn.body=some c/\(fn.name == "runtime.NumGoroutine")=false:=by
 unfold zMv at h
 cases hf:P.funcs[f]? with
 | none=>simp[hf]at h
 | some fn =>
  simp only[hf,Bool.and_eq_true,Option.isSome_iff_exists,bne_iff_ne,ne_eq]at h
  obtain⟨⟨c,hc⟩,hn⟩:=h
  exact⟨fn,c,rfl,hc,by simpa using hn⟩
abbrev Fr (ro:Option Nat):Fence:={ fn:=fun _=>True,depth:=none,alive:=false,round:=ro }
theorem zO6 {ro:Option Nat}{n:Nat}{P:Program}{f:FuncId}{args:Array Value}{w:World}{R:Ending->World->Prop}(h:Calls P f args w R):CallsIn (Fr ro) n P f args w R:=by
 have h:CallsIn Fence.wide n P f args w R:=callsIn_wide.2 h
 exact h
theorem zAgR {ro:Option Nat}{m:Nat}{P:Program}{q:Bool}{o:Oper}{a:Act}{w:World}{k:Value->zAd->Prop}{next:Act->World->Prop}{Q:Exit->Act->World->Prop}
  (h:opX P q o (ev (zBN a)) w.heap k) (hn:∀ v w',zHd w w'->k v w'.heap->next (a.put o.dst v) w'):o.wpIn (Fr ro) m P a w next Q:=by
 unfold Oper.wpIn
 refine⟨fun _ _=>trivial,?_⟩
 have hsem:∀ r,(execOp a.eval o).run P w=r->(∀ d w',r ≠ .ok (.defer d) w')->(∀ x w',r ≠ .halt x w')->(o.semAt ro a.eval).run P w=r:=fun r hr hd hh=>by
  by_cases hop:∃ c,o.op = .defer c
  ·obtain⟨c,hop⟩:=hop
   simp only[execOp,hop,Sem.run_bind]at hr
   cases hres:(resolve a.eval c o.type).run P w with
   | ok d w'=>rw[hres]at hr;exact absurd hr.symm (hd d w')
   | halt x w'=>rw[hres]at hr;exact absurd hr.symm (hh x w')
  ·rw[Oper.semAt_eq ro _ o fun c hc=>hop ⟨c,hc⟩];exact hr
 rcases zX4 (fun _=>rfl) h with (⟨c,f,ho,hc,hb,hcall⟩ | ⟨c,x,ho,hc,hcall⟩) | hraw
 ·obtain⟨fn,body,hf,hbody,hname⟩:=zMB hb
  have hrun:(execOp (ev (zBN a)) o).run P w = .ok (.enter f (c.args.toList.map (ev (zBN a))).toArray) w:=by
   have e:(List.map (ev (zBN a)) c.args.toList).toArray=Array.map (ev (zBN a)) c.args:=by apply Array.ext';simp
   rw[e]
   simp only[execOp,ho,resolve,hc,ev,Deferred.ofValue,Sem.run_bind,Sem.run_pure,Result.andThen_ok,invoke,callFunc,run_program,hf,hname,hbody]
   simp
  rw[<- zJG]at hrun
  have hs:=hsem _ hrun (by simp) (by simp)
  show o.uponIn (Fr ro) m P a next Q ((o.semAt ro a.eval).run P w)
  rw[hs,Oper.uponIn_enter]
  refine⟨fun h=>(by cases h),?_⟩
  refine zO6 ((hcall w rfl).mono ?_)
  rintro e w' ⟨v,rfl,hs,hk⟩
  exact hn v w' hs hk
 ·rcases hcall with ⟨f,fi,ca,hx,hb,hcall⟩ | ⟨l,fi,ca,hx,hcall⟩
  ·obtain⟨fn,body,hf,hbody,hname⟩:=zMB hb
   have hrun:(execOp (ev (zBN a)) o).run P w = .ok (.enter f (fi.toList++c.args.toList.map (ev (zBN a))++ca.toList).toArray) w:=by
    have e:(fi.toList++c.args.toList.map (ev (zBN a))++ca.toList).toArray=fi++Array.map (ev (zBN a)) c.args++ca:=by apply Array.ext';simp
    rw[e]
    simp only[execOp,ho,resolve,hc,hx,Deferred.ofValue,Sem.run_bind,Sem.run_pure,Result.andThen_ok,invoke,callFunc,run_program,hf,hname,hbody]
    simp
   rw[<- zJG]at hrun
   have hs:=hsem _ hrun (by simp) (by simp)
   show o.uponIn (Fr ro) m P a next Q ((o.semAt ro a.eval).run P w)
   rw[hs,Oper.uponIn_enter]
   refine⟨fun h=>(by cases h),?_⟩
   refine zO6 ((hcall w rfl).mono ?_)
   rintro e w' ⟨v,rfl,hs,hk⟩
   exact hn v w' hs hk
  ·obtain⟨f,tmps,assign,body,hy,hr⟩:=hcall w rfl
   have hrun:(execOp (ev (zBN a)) o).run P w = .ok (.round l f tmps assign body) w:=by
    have e:(fi.toList++c.args.toList.map (ev (zBN a))).toArray=fi++Array.map (ev (zBN a)) c.args:=by apply Array.ext';simp
    rw[e]at hy
    simp only[execOp,ho,resolve,hc,hx,Deferred.ofValue,Sem.run_bind,Sem.run_pure,Result.andThen_ok,invoke,hy]
   rw[<- zJG]at hrun
   have hs:=hsem _ hrun (by simp) (by simp)
   show o.uponIn (Fr ro) m P a next Q ((o.semAt ro a.eval).run P w)
   rw[hs,Oper.uponIn_round]
   refine⟨fun h=>(by cases h),?_⟩
   have hr':RoundIn (Fr ro) (m - 1) P l f tmps assign body w fun e w'=>∃ v,e = .returned v/\zHd w w'/\k v w'.heap:=⟨trivial,fun c cs _=>hr.2 c cs (fun d hd=>by cases hd)⟩
   refine hr'.mono ?_
   rintro e w' ⟨v,rfl,hs,hk⟩
   exact hn v w' hs hk
 ·obtain⟨n,w',hr,hs,hk⟩:=hraw w rfl
  rw[<- zJG]at hr
  have hs':=hsem _ hr (by rintro d w';rcases hk with ⟨v,rfl,hk⟩ | ⟨rfl,hk⟩ <;> simp) (by simp)
  show o.uponIn (Fr ro) m P a next Q ((o.semAt ro a.eval).run P w)
  rw[hs']
  rcases hk with ⟨v,rfl,hk⟩ | ⟨rfl,hk⟩
  ·exact hn v w' hs hk
  ·exact hn undef w' hs hk
theorem zUJ {ro:Option Nat}{m:Nat}{P:Program}{q:Bool}{ops:Array Oper}{n i:Nat}{o:Oper}(hi:ops[i]? = some o)(hok:zUD n o=true){a:Act}{w:World}(hsz:a.tmps.size=n){K:Env->zAd->Prop}{next:Act->World->Prop}{Q:Exit->Act->World->Prop}
  (h:zUI P q ops o (zBN a) w.heap K) (hn:∀ a' w',zHd w w'->a'.tmps.size=n->a'.defers=a.defers->K (zBN a') w'.heap->next a' w'):wpOpIn (Fr ro) m P ops Q i next a w:=by
 unfold wpOpIn
 simp only[hi]
 have hd:∀ t,o.dst=some t->t<a.tmps.size:=fun t ht=>by rw[hsz];exact zAaB hok t ht
 rcases h with ⟨ha,h⟩ | ⟨ha,h⟩
 ·rw[zRF ha,if_pos rfl]
  refine zAgR h fun v w' hs hk=>hn _ _ hs (by rw[zVK,hsz]) zQo ?_
  rw[zTt hd];exact hk
 ·rw[zRF ha,if_neg (by simp)]
  refine⟨fun _ _=>trivial,?_⟩
  refine hn _ _ (zHd.rfl' w) (by rw[zVK,hsz]) zQo ?_
  rw[zTt hd];exact h
def zUK (P:Program)(q:Bool)(ops:Array Oper):List Oper->Env->zAd->(Env->zAd->Prop)->Prop
 | [],e,H,K=>K e H
 | o :: r,e,H,K=>zUI P q ops o e H fun e h=>zUK P q ops r e h K
theorem zUK.mono {P:Program}{q:Bool}{ops:Array Oper}:∀ {l:List Oper} {e:Env} {H:zAd} {K K':Env->zAd->Prop},zUK P q ops l e H K->(∀ e h,K e h->K' e h)->zUK P q ops l e H K'
 | [],_,_,_,_,h,hk=>hk _ _ h
 | _ :: _,_,_,_,_,h,hk=>zUI.mono h fun _ _ h=>zUK.mono h hk
theorem zRG {ro:Option Nat}{m:Nat}{P:Program}{q:Bool}{ops:Array Oper}{n:Nat}{Q:Exit->Act->World->Prop}{K:Env->zAd->Prop}{w0:World}{df:List Deferred}:∀ (l:List Nat) (os:List Oper),
  os.length=l.length->(∀ (j i:Nat),l[j]? = some i->∃ o,os[j]? = some o/\ops[i]? = some o/\zUD n o=true)->∀ (a:Act) (w:World),a.tmps.size=n->a.defers=df->zHd w0 w ->
  zUK P q ops os (zBN a) w.heap K->(∀ a' w',zHd w0 w'->a'.tmps.size=n->a'.defers=df->K (zBN a') w'.heap->Q .normal a' w')->wpOpsIn (Fr ro) m P ops Q l a w
 | [],os,hl,_,a,w,hsz,hdf,hsm,h,hq=>by
  have:os=[]:=List.length_eq_zero_iff.1 hl
  subst this
  exact hq a w hsm hsz hdf h
 | i :: l,os,hl,hos,a,w,hsz,hdf,hsm,h,hq=>by
  obtain⟨o,ho,hi,hok⟩:=hos 0 i rfl
  match os,ho with
  | o' :: os',ho =>
   simp only[List.getElem?_cons_zero,Option.some.injEq]at ho
   subst ho
   rw[wpOpsIn_cons]
   refine zUJ hi hok hsz h fun a' w' hs hs' hd' hk=>?_
   exact zRG l os' (by simpa using hl) (fun j i' hj=>by simpa using hos (j+1) i' (by simpa using hj)) a' w' hs' (hd'.trans hdf) (hsm.trans hs) hk hq
def zAdv (ops:Array Oper)(x y:Nat):Prop:=∃ oy,ops[y]? = some oy/\∃ g ∈ oy.after,Region.binds .any g=true/\g.on=x
inductive Anc (ops:Array Oper):Nat->Nat->Prop
 | one {x y:Nat}:zAdv ops x y->Anc ops x y
 | more {x y z:Nat}:Anc ops x y->zAdv ops y z->Anc ops x z
theorem zRH {ops:Array Oper}{listed:Array Bool}(hcl:∀ i,listed.getD i false=true->∀ x,zAdv ops x i->listed.getD x false=true){i:Nat}(hi:∀ x,zAdv ops x i->listed.getD x false=true){x:Nat}(h:Anc ops x i):listed.getD x false=true:=by
 have key:∀ {x y:Nat},Anc ops x y->listed.getD y false=true->listed.getD x false=true:=by
  intro x y h
  induction h with
  | one h=>exact fun hy=>hcl _ hy _ h
  | more _ h2 ih=>exact fun hz=>ih (hcl _ hz _ h2)
 cases h with
 | one h=>exact hi _ h
 | more h1 h2=>exact key h1 (hi _ h2)
structure Rel (P:Program)(ops:Array Oper)(rsl:Nat->List Nat)(x y:Nat):Prop where
 fwd:Anc ops x y\/∃ ox oy,ops[x]? = some ox/\ops[y]? = some oy/\zQn P ops ox oy=true /\
  (cls P ox.op=1->cls P oy.op≠0->cls P oy.op≠1->x ∈ rsl y/\∃ d,ox.dst=some d/\d ∉ ox.looksAt ops)
 bwd:¬ zAdv ops y x
 stay:∀ ox oy,ops[x]? = some ox->ops[y]? = some oy->cls P ox.op=1->∀ d,oy.dst=some d->d ∉ ox.looksAt ops/\ox.dst≠some d
def Ob (P:Program)(ops:Array Oper)(rsl:Nat->List Nat)(seen:List Nat)(i:Nat)(e:Env)(h:zAd):Prop :=
 ∀ j,j ∈ rsl i->j ∈ seen->∀ oj,ops[j]? = some oj->rc P oj e h
def zNv (P:Program)(ops:Array Oper)(rsl:Nat->List Nat):List Nat->List Nat->Env->zAd->(Env->zAd->Prop)->Prop
 | _,[],e,H,K=>K e H
 | seen,i :: l,e,H,K=>match ops[i]? with
  | none=>False
  | some o=>zFm P ops o e H (Ob P ops rsl seen i) fun e' h'=>zNv P ops rsl (i :: seen) l e' h' K
theorem zNv.less {P:Program}{ops:Array Oper}{rsl:Nat->List Nat}:∀ {l seen seen':List Nat} {e:Env} {H:zAd} {K:Env->zAd->Prop},(∀ k,k ∈ seen'->k ∈ seen)->zNv P ops rsl seen l e H K->zNv P ops rsl seen' l e H K
 | [],_,_,_,_,_,_,h=>h
 | i :: l,seen,seen',e,H,K,hs,h=>by
  simp only[zNv]at h ⊢
  cases ho:ops[i]? with
  | none=>simp[ho]at h
  | some o =>
   simp only[ho]at h ⊢
   exact zFm.mono h (fun e' h' a j hj hm=>a j hj (hs j hm)) fun e' h' b=>zNv.less (fun k hk=>by
    rcases List.mem_cons.1 hk with rfl | hk
    ·simp
    ·simp[hs k hk]) b
theorem zX6 {P:Program}{ops:Array Oper}{j:Oper}{e:Env}{h:zAd}{d:Option Nat}{v:Value}(hd:∀ t,d=some t->t ∉ j.looksAt ops/\j.dst≠some t):rc P j (e.put d v) h↔rc P j e h:=by
 unfold rc
 cases hj:j.dst with
 | none=>exact Iff.rfl
 | some t =>
  simp only
  rw[zLa (zRE (ops:=ops) fun t ht=>(hd t ht).1),zHf (fun he=>(hd t he).2 hj)]
theorem zAfa {P:Program}{ops:Array Oper}{rsl:Nat->List Nat}{i:Nat}{o:Oper}(ho:ops[i]? = some o)(hsel:∀ (x:Nat) (o:Oper),ops[x]? = some o->∀ cs b,o.op ≠ .select cs b)
  (hrs:∀ (x:Nat) (o:Oper),ops[x]? = some o->(cls P o.op=0\/cls P o.op=1)->rsl x=[]) (hrd:∀ (x k:Nat) (ok:Oper),k ∈ rsl x->ops[k]? = some ok->cls P ok.op=1) {post:List Nat}:∀ {pre seen:List Nat},
  (∀ j ∈ pre,¬ Anc ops j i)->(∀ j ∈ pre,Rel P ops rsl j i)->pre.Pairwise (Rel P ops rsl)->(∀ k ∈ seen,Rel P ops rsl k i/\∀ j ∈ pre,Rel P ops rsl k j) ->
  ∀ {e:Env} {H:zAd} {K:Env->zAd->Prop},zNv P ops rsl seen (pre++i :: post) e H K->zFm P ops o e H (Ob P ops rsl seen i) fun e1 h1=>zNv P ops rsl seen (pre++post) e1 h1 K
 | [],seen,_,_,_,_,e,H,K,h=>by
  simp only[List.nil_append,zNv,ho]at h
  exact zFm.mono h (fun _ _ a=>a) fun e1 h1 b=>zNv.less (fun k hk=>by simp[hk]) b
 | j :: pre,seen,hna,hri,hpw,hseen,e,H,K,h=>by
  simp only[List.cons_append,zNv]at h
  cases hj:ops[j]? with
  | none=>simp[hj]at h
  | some oj =>
   simp only[hj]at h
   have hpc:=List.pairwise_cons.1 hpw
   have h1:zFm P ops oj e H (Ob P ops rsl seen j) fun e1 h1=>zFm P ops o e1 h1 (Ob P ops rsl (j :: seen) i) fun e2 h2=>zNv P ops rsl (j :: seen) (pre++post) e2 h2 K :=
    zFm.mono h (fun _ _ a=>a) fun e1 h1 b=>zAfa ho hsel hrs hrd (fun x hx=>hna x (by simp[hx])) (fun x hx=>hri x (by simp[hx])) hpc.2 (fun k hk=>by
     rcases List.mem_cons.1 hk with rfl | hk
     ·exact⟨hri k (by simp),fun x hx=>hpc.1 x hx⟩
     ·exact⟨(hseen k hk).1,fun x hx=>(hseen k hk).2 x (by simp[hx])⟩) b
   obtain⟨ox,oy,e1,e2,hok,hre⟩:=(hri j (by simp)).fwd.resolve_left (hna j (by simp))
   rw[hj]at e1;cases e1
   rw[ho]at e2;cases e2
   have:=swap (hsel j _ hj) (hsel i _ ho) hok (Ci':=Ob P ops rsl seen i) ?_ ?_ h1
   ·refine zFm.mono this (fun _ _ a=>a) fun e1 h1 b=>?_
    simp only[List.cons_append,zNv,hj]
    exact b
   ·intro hi0
    refine⟨fun e h k hk=>by rw[hrs i _ ho (.inl hi0)]at hk;simp at hk,fun e h v hc k hk hm ok hok'=>?_⟩
    exact(zX6 (ops:=ops) fun t ht=>(hseen k hm).1.stay ok o hok' ho (hrd j k ok hk hok') t ht).2 (hc k hk hm ok hok')
   ·intro hi0
    have hj1:cls P oj.op=0\/cls P oj.op=1:=by
     simp only[zQn,Bool.and_eq_true]at hok
     rcases Bool.or_eq_true_iff.1 hok.2 with hh | hh
     ·exact absurd (Nat.eq_of_beq_eq_true hh) hi0
     ·exact zAdu.1 hh
    refine⟨fun e h k hk=>by rw[hrs j _ hj hj1]at hk;simp at hk,fun e h v hc k hk hm ok hok'=>?_,fun hj1 hi1=>?_⟩
    ·exact(zX6 (ops:=ops) fun t ht=>((hseen k hm).2 j (by simp)).stay ok oj hok' hj (hrd i k ok hk hok') t ht).1 (hc k hk (by simp[hm]) ok hok')
    ·obtain⟨hm,hd⟩:=hre hj1 hi0 hi1
     exact⟨hd,fun e h hc=>hc j hm (by simp) oj hj⟩
theorem zWV {ro:Option Nat}{m:Nat}{P:Program}{ops:Array Oper}{rsl:Nat->List Nat}{n:Nat}{Q:Exit->Act->World->Prop}{K:Env->zAd->Prop}{w0:World}{df:List Deferred}(hokall:∀ (i:Nat) (o:Oper),ops[i]? = some o->zUD n o=true)(hirr:∀ (i:Nat) (o:Oper),ops[i]? = some o->¬ ∃ g ∈ o.after,Region.binds .any g=true/\g.on=i)
  (hin:∀ (i:Nat) (o:Oper),ops[i]? = some o->∀ g ∈ o.after,Region.binds .any g=true->g.on<ops.size)
  (hrs:∀ (x:Nat) (o:Oper),ops[x]? = some o->(cls P o.op=0\/cls P o.op=1)->rsl x=[]) (hrd:∀ (x k:Nat) (ok:Oper),k ∈ rsl x->ops[k]? = some ok->cls P ok.op=1):∀ (fuel:Nat) (R:List Nat) (listed:Array Bool) (a:Act) (w:World),
  R.length<=fuel->listed.size=ops.size->(∀ i,listed.getD i false=true->∀ x,zAdv ops x i->listed.getD x false=true)->(∀ i,i ∈ R↔i<ops.size/\listed.getD i true=false)->R.Pairwise (Rel P ops rsl)->R.Nodup->a.tmps.size=n->a.defers=df->zHd w0 w ->
  zNv P ops rsl [] R (zBN a) w.heap K->(∀ a' w',zHd w0 w'->a'.tmps.size=n->a'.defers=df->K (zBN a') w'.heap->Q .normal a' w')->wpAnyIn (Fr ro) m P .any ops Q fuel listed a w:=by
 have hready:∀ (R:List Nat) (listed:Array Bool),listed.size=ops.size->(∀ i,i ∈ R↔i<ops.size/\listed.getD i true=false)->R.Pairwise (Rel P ops rsl)->Region.ready .any ops listed=[]->R=[]:=by
  intro R listed hls hR hpw hr
  cases R with
  | nil=>rfl
  | cons x R =>
   exfalso
   have hx:=(hR x).1 (by simp)
   have:x ∈ Region.ready .any ops listed:=by
    refine mem_ready.2 ⟨hx.2,ops[x],Array.getElem?_eq_getElem hx.1,fun g hg hb=>?_⟩
    have ho:ops[x]? = some ops[x]:=Array.getElem?_eq_getElem hx.1
    have hlt:=hin x _ ho g hg hb
    cases hl:listed.getD g.on false with
    | true=>rfl
    | false =>
     exfalso
     have hl':listed.getD g.on true=false:=by
      simp only[Array.getD_eq_getD_getElem?]at hl ⊢
      rw[Array.getElem?_eq_getElem (by omega)]at hl ⊢
      simpa using hl
     have hm:g.on ∈ x :: R:=(hR g.on).2 ⟨hlt,hl'⟩
     rcases List.mem_cons.1 hm with he | hm
     ·exact hirr x _ ho ⟨g,hg,hb,he⟩
     ·exact(List.rel_of_pairwise_cons hpw hm).bwd ⟨_,ho,g,hg,hb,rfl⟩
   rw[hr]at this
   simp at this
 intro fuel
 induction fuel with
 | zero =>
  intro R listed a w hlen hls hcl hR hpw hnd hsz hdf hsm h hq
  have:R=[]:=List.length_eq_zero_iff.1 (by omega)
  subst this
  refine⟨?_,hq a w hsm hsz hdf h⟩
  cases hr:Region.ready .any ops listed with
  | nil=>rfl
  | cons x l =>
   exfalso
   have hx:x ∈ Region.ready .any ops listed:=by rw[hr];simp
   obtain⟨h0,o,ho,_⟩:=mem_ready.1 hx
   have:=(hR x).2 ⟨(Array.getElem?_eq_some_iff.1 ho).1,h0⟩
   simp at this
 | succ fuel ih =>
  intro R listed a w hlen hls hcl hR hpw hnd hsz hdf hsm h hq
  refine⟨fun hr=>?_,fun i hi=>?_⟩
  ·have:=hready R listed hls hR hpw hr
   subst this
   exact hq a w hsm hsz hdf h
  ·obtain⟨h0,o,ho,hall⟩:=mem_ready.1 hi
   have hilt:=(Array.getElem?_eq_some_iff.1 ho).1
   have hiR:i ∈ R:=(hR i).2 ⟨hilt,h0⟩
   obtain⟨pre,post,rfl⟩:=List.append_of_mem hiR
   have hna:∀ j ∈ pre,¬ Anc ops j i:=by
    intro j hj hanc
    have hl:listed.getD j false=true:=zRH hcl (fun x ⟨oy,hoy,g,hg,hb,hgo⟩=>by
     rw[ho]at hoy;cases hoy
     rw[<- hgo];exact hall g hg hb) hanc
    have hjR:=(hR j).1 (by simp[hj])
    simp only[Array.getD_eq_getD_getElem?]at hl
    have:=hjR.2
    simp only[Array.getD_eq_getD_getElem?]at this
    rw[Array.getElem?_eq_getElem (by omega)]at hl this
    simp_all
   have hpa:=List.pairwise_append.1 hpw
   have h:=zAfa ho (fun x o hx=>zOp (hokall x o hx)) hrs hrd hna (fun j hj=>hpa.2.2 j hj i (by simp)) hpa.1 (fun k hk=>by simp at hk) h
   refine zUJ ho (hokall i o ho) hsz h.step fun a' w' hs hs' hd' hk=>?_
   have hnd':=hnd
   rw[List.nodup_append]at hnd'
   refine ih (pre++post) (listed.setIfInBounds i true) a' w' ?_ ?_ ?_ ?_ ?_ ?_ hs' (hd'.trans hdf) (hsm.trans hs) hk hq
   ·simp at hlen ⊢;omega
   ·simp[hls]
   ·intro j hj x hx
    by_cases hji:j=i
    ·subst hji
     obtain⟨oy,hoy,g,hg,hb,hgo⟩:=hx
     rw[ho]at hoy;cases hoy
     rw[<- hgo]
     exact getD_set_true (hall g hg hb)
    ·rw[getD_set_ne false (Ne.symm hji)]at hj
     exact getD_set_true (hcl j hj x hx)
   ·intro j
    by_cases hji:j=i
    ·subst hji
     have:j ∉ pre++post:=by
      intro hm
      rcases List.mem_append.1 hm with hm | hm
      ·exact hnd'.2.2 j hm j (by simp) rfl
      ·exact(List.nodup_cons.1 hnd'.2.1).1 hm
     simp only[this,false_iff,not_and]
     intro _
     simp[hls,hilt]
    ·rw[getD_set_ne true (Ne.symm hji),<- hR j]
     simp[hji]
   ·exact hpw.sublist (by simp)
   ·exact hnd.sublist (by simp)
def has:List Nat->Nat->Bool
 | [],_=>false
 | a :: l,i=>bif Nat.beq i a then true else has l i
theorem zBx {l:List Nat}{i:Nat}:has l i=true↔i ∈ l:=by
 induction l with
 | nil=>simp[has]
 | cons a l ih =>
  simp only[has,List.mem_cons]
  cases h:Nat.beq i a with
  | true=>simp[Nat.eq_of_beq_eq_true h]
  | false =>
   have:i≠a:=fun e=>by subst e;rw[Nat.beq_refl]at h;cases h
   simp[this,ih]
def Cur:Nat->Type
 | 0=>zAd->Prop
 | n+1=>Value->Cur n
def Cur.of:(n:Nat)->(List Value->zAd->Prop)->Cur n
 | 0,F=>F []
 | n+1,F=>fun v=>Cur.of n fun vs=>F (v :: vs)
def Cur.app:(n:Nat)->Cur n->List Value->zAd->Prop
 | 0,k,_=>k
 | n+1,k,[]=>Cur.app n (k undef) []
 | n+1,k,v :: vs=>Cur.app n (k v) vs
theorem Cur.app_of:∀ {n:Nat} {F:List Value->zAd->Prop} {vs:List Value} {h:zAd},vs.length=n->(Cur.app n (Cur.of n F) vs h↔F vs h)
 | 0,F,[],h,_=>Iff.rfl
 | n+1,F,v :: vs,h,hl=>Cur.app_of (n:=n) (F:=fun vs=>F (v :: vs)) (by simpa using hl)
inductive zIE (n:Nat) (body:Cur n->Prop) (rest:Cur n):Prop
 | mk:body rest->zIE n body rest
theorem zIE.out {n:Nat}{body:Cur n->Prop}{rest:Cur n}:zIE n body rest->body rest
 | .mk h=>h
theorem zEa {n:Nat}{body:Cur n->Prop}{rest:Cur n}:zIE n body rest↔body rest:=⟨zIE.out,.mk⟩
def zSo (n:Nat)(body:Cur n->Cur n)(vs:List Value)(H:zAd):Prop :=
 ∃ (I:List Value->zAd->Prop) (μ:List Value->zAd->Nat),I vs H/\∀ vs h,vs.length=n->I vs h->Cur.app n (body (Cur.of n fun vs' h'=>I vs' h'/\μ vs' h'<μ vs h)) vs h
def zXI:List Nat->List Value->Nat->Value->Value
 | l :: L,v :: vs,i,d=>bif Nat.beq i l then v else zXI L vs i d
 | _,_,_,d=>d
def mg (_A L:List Nat)(e:Env)(vs:List Value):Env:=fun i=>zXI L vs i (e i)
theorem zAaC {L:List Nat}{f:Env}{i:Nat}{d:Value}(h:has L i=true):zXI L (L.map f) i d=f i:=by
 induction L with
 | nil=>simp[has]at h
 | cons l L ih =>
  simp only[has]at h
  simp only[List.map_cons,zXI]
  cases hb:Nat.beq i l with
  | true=>simp[Nat.eq_of_beq_eq_true hb]
  | false=>rw[hb]at h;simpa using ih h
theorem zVL {i:Nat}{d:Value}:∀ {L:List Nat} {vs:List Value},has L i=false->zXI L vs i d=d
 | [],_,_=>by simp[zXI]
 | _ :: _,[],_=>by simp[zXI]
 | l :: L,v :: vs,h=>by
  simp only[has]at h
  simp only[zXI]
  cases hb:Nat.beq i l with
  | true=>rw[hb]at h;simp at h
  | false=>rw[hb]at h;simpa using zVL (L:=L) (vs:=vs) h
def rm (A D:List Nat):List Nat:=D.filter fun i=>!has A i
def both (V A D:List Nat):List Nat:=V.filter fun i=>has A i && has D i
def addD (d:Option Nat)(D:List Nat):List Nat:=match d with | some d=>d :: D | none=>D
def zDM (D:List Nat)(e e1:Env):Prop:=∀ i,i ∈ D->e i=e1 i
theorem zDM.put {D:List Nat}{e e1:Env}{d:Option Nat}{v:Value}(h:zDM D e e1):zDM (addD d D) (e.put d v) (e1.put d v):=by
 intro i hi
 cases d with
 | none=>exact h i hi
 | some d =>
  by_cases hd:i=d
  ·subst hd;rw[zLc,zLc]
  ·rw[zHf (by simpa using fun h=>hd h.symm),zHf (by simpa using fun h=>hd h.symm)]
   exact h i ((List.mem_cons.1 hi).resolve_left hd)
theorem zOq {V A L D Da:List Nat}{e e1 e1':Env}(hL:L=both V A Da)(h:zDM D e e1)(hun:∀ i,i ∉ A->e1' i=e1 i){vs:List Value}(hvs:vs=L.map e1'):zDM (L++rm A D) (mg A L e vs) e1':=by
 intro i hi
 subst hvs
 rcases List.mem_append.1 hi with hi | hi
 ·have hi':=hi
  rw[hL]at hi'
  have hA:has A i=true:=by
   have:=(List.mem_filter.1 hi').2
   simp only[Bool.and_eq_true]at this
   exact this.1
  exact zAaC (zBx.2 hi)
 ·obtain⟨hD,hA⟩:=List.mem_filter.1 hi
  have hA:has A i=false:=by simpa using hA
  have hL':has L i=false:=by
   cases hl:has L i with
   | false=>rfl
   | true =>
    have:=zBx.1 hl
    rw[hL]at this
    have:=(List.mem_filter.1 this).2
    rw[hA]at this;simp at this
  show zXI L _ i (e i)=_
  rw[zVL hL',hun i (fun hm=>by rw[zBx.2 hm]at hA;cases hA)]
  exact h i hD
def zUL (D:List Nat):Operand->Bool
 | .tmp t=>has D t
 | _=>true
def zAaD (D:List Nat)(o:Oper):Bool:=o.op.operands.toList.all (zUL D)
theorem zLd {D:List Nat}{o:Oper}(h:zAaD D o=true){e e1:Env}(ha:zDM D e e1):∀ x ∈ o.op.operands,ev e x=ev e1 x:=by
 intro x hx
 have:=List.all_eq_true.1 h x (Array.mem_toList_iff.2 hx)
 cases x <;> first | rfl | exact ha _ (zBx.1 this)
def zF9:List Oper->List Nat
 | []=>[]
 | o :: r=>addD o.dst (zF9 r)
def Mre:List (Option Value×Value)->Prop->Prop
 | [],p=>p
 | (a,b) :: l,p=>a=some b/\Mre l p
abbrev Item:=Oper×List Oper
def zAgz (e:Env):Option Nat->Value
 | some d=>e d
 | none=>undef
def zSp (P:Program)(e:Env)(h:zAd):List Oper->List (Option Value×Value)
 | []=>[]
 | j :: l=>(zOo (opR P j.op (ev e) h),zAgz e j.dst) :: zSp P e h l
def zVM (P:Program):List Item->Env->zAd->(Env->zAd->Prop)->Prop
 | [],e,H,K=>K e H
 | (o,rs) :: r,e,H,K=>opX P false o (ev e) H fun v h=>Mre (zSp P (e.put o.dst v) h rs) (zVM P r (e.put o.dst v) h K)
def zAaE (D:List Nat)(j:Oper):Bool:=zAaD D j && (match j.dst with | some d=>has D d | none=>false)
def zHg:List Item->List Nat->Option (List Nat)
 | [],D=>some D
 | (o,rs) :: r,D=>bif zAaD D o && rs.all (zAaE (addD o.dst D)) then zHg r (addD o.dst D) else none
theorem zQp {P:Program}{e:Env}{h:zAd}{p:Prop}:∀ {rs:List Oper},Mre (zSp P e h rs) p↔(∀ j ∈ rs,zOo (opR P j.op (ev e) h)=some (zAgz e j.dst))/\p
 | []=>by simp[zSp,Mre]
 | j :: rs=>by simp only[zSp,Mre,zQp (rs:=rs),List.forall_mem_cons,and_assoc]
theorem zSq {P:Program}{D:List Nat}{j:Oper}(h:zAaE D j=true){e e1:Env}{hp:zAd}(ha:zDM D e e1)(hr:zOo (opR P j.op (ev e) hp)=some (zAgz e j.dst)):rc P j e1 hp:=by
 simp only[zAaE,Bool.and_eq_true]at h
 unfold rc
 cases hd:j.dst with
 | none=>trivial
 | some d =>
  rw[hd]at h hr
  simp only[zAgz]at hr ⊢
  rw[<- zLa (zLd h.1 ha),hr,ha d (zBx.1 h.2)]
def zOr (g:Nat×Bool)(o:Oper):Bool:=match o.guard with
 | some (j,b)=>Nat.beq j g.1 && (b == g.2)
 | none=>false
def zCM:List Item->List Oper
 | []=>[]
 | (o,_) :: r=>o :: zCM r
def zFZ (g:Nat×Bool):List Item->List Item×List Item
 | []=>([],[])
 | o :: r=>bif zOr g o.1 then ((o :: (zFZ g r).1),(zFZ g r).2) else ([],o :: r)
theorem zVN (g:Nat×Bool):∀ l,l=(zFZ g l).1++(zFZ g l).2
 | []=>rfl
 | o :: r=>by
  simp only[zFZ]
  cases zOr g o.1
  ·rfl
  ·simp only[cond_true,List.cons_append];rw[<- zVN g r]
theorem zTu (g:Nat×Bool):∀ l,∀ o ∈ (zFZ g l).1,zOr g o.1=true
 | [],o,h=>by simp[zFZ]at h
 | x :: r,o,h=>by
  simp only[zFZ]at h
  cases hx:zOr g x.1
  ·rw[hx]at h;simp at h
  ·rw[hx]at h
   rcases List.mem_cons.1 h with rfl | h
   ·exact hx
   ·exact zTu g r o h
def zAcb (P:Program)(V:List Nat)(ops:Array Oper):Nat->List Item->Env->zAd->(Env->zAd->Prop)->Prop
 | 0,_,_,_,_=>False
 | _+1,[],e,H,K=>K e H
 | f+1,(o,rs) :: rest,e,H,K=>match o.guard with
  | none=>opX P false o (ev e) H fun v h=>Mre (zSp P (e.put o.dst v) h rs) (zAcb P V ops f rest (e.put o.dst v) h K)
  | some g=>match (ops[g.1]?).bind (·.dst) with
   | some t =>
    zIE (both V (zF9 (zCM ((o,rs) :: (zFZ g rest).1))) V).length
     (fun k=>Mif (e t) g.2 (zVM P ((o,rs) :: (zFZ g rest).1) e H fun e' h=>Cur.app _ k ((both V (zF9 (zCM ((o,rs) :: (zFZ g rest).1))) V).map e') h)
      (Cur.app _ k ((both V (zF9 (zCM ((o,rs) :: (zFZ g rest).1))) V).map fun _=>undef) H))
     (Cur.of _ fun vs h=>zAcb P V ops f (zFZ g rest).2 (mg (zF9 (zCM ((o,rs) :: (zFZ g rest).1))) (both V (zF9 (zCM ((o,rs) :: (zFZ g rest).1))) V) e vs) h K)
   | none=>False
def zOs (V:List Nat)(ops:Array Oper):Nat->List Item->List Nat->Option (List Nat)
 | 0,_,_=>none
 | _+1,[],D=>some D
 | f+1,(o,rs) :: rest,D=>match o.guard with
  | none=>bif zAaD D o && rs.all (zAaE (addD o.dst D)) then zOs V ops f rest (addD o.dst D) else none
  | some g=>match (ops[g.1]?).bind (·.dst) with
   | some t=>bif has D t && !has (zF9 (zCM ((o,rs) :: (zFZ g rest).1))) t then
     (match zHg ((o,rs) :: (zFZ g rest).1) D with
     | some _=>zOs V ops f (zFZ g rest).2 (both V (zF9 (zCM ((o,rs) :: (zFZ g rest).1))) V++rm (zF9 (zCM ((o,rs) :: (zFZ g rest).1))) D)
     | none=>none) else none
   | none=>none
def zKi (P:Program)(ops:Array Oper):List Item->Env->zAd->(Env->zAd->Prop)->Prop
 | [],e,H,K=>K e H
 | (o,rs) :: r,e,H,K=>zFm P ops o e H (fun e h=>∀ j ∈ rs,rc P j e h) fun e h=>zKi P ops r e h K
theorem zKi.mono {P:Program}{ops:Array Oper}:∀ {l:List Item} {e:Env} {H:zAd} {K K':Env->zAd->Prop},zKi P ops l e H K->(∀ e h,K e h->K' e h)->zKi P ops l e H K'
 | [],_,_,_,_,h,hk=>hk _ _ h
 | (_,_) :: _,_,_,_,_,h,hk=>zFm.mono h (fun _ _ a=>a) fun _ _ h=>zKi.mono h hk
theorem zPF {P:Program}{ops:Array Oper}:∀ {l m:List Item} {e:Env} {H:zAd} {K:Env->zAd->Prop},zKi P ops l e H (fun e h=>zKi P ops m e h K)->zKi P ops (l++m) e H K
 | [],_,_,_,_,h=>h
 | (_,_) :: _,_,_,_,_,h=>zFm.mono h (fun _ _ a=>a) fun _ _ h=>zPF h
theorem zJr {o:Oper}{d:Nat}(h:o.dst=some d):∀ {l:List Oper},o ∈ l->d ∈ zF9 l
 | x :: l,hm=>by
  rcases List.mem_cons.1 hm with rfl | hm
  ·simp[zF9,h,addD]
  ·have:=zJr h hm
   simp only[zF9,addD]
   cases x.dst <;> simp[this]
theorem zSr {ops:Array Oper}{g:Nat×Bool}{t:Nat}(ht:(ops[g.1]?).bind (·.dst)=some t){o:Oper}(hsg:zOr g o=true){e1:Env}{b:Bool}(het:e1 t = .bool b):act ops o e1=some (b == g.2):=by
 unfold zOr at hsg
 unfold act
 cases hg:o.guard with
 | none=>simp[hg]at hsg
 | some g' =>
  obtain⟨j,b⟩:=g'
  rw[hg]at hsg
  simp only[Bool.and_eq_true,beq_iff_eq]at hsg
  obtain⟨h1,h2⟩:=hsg
  have hj:j=g.1:=Nat.eq_of_beq_eq_true h1
  subst hj h2
  simp[ht,het]
theorem zTv {ops:Array Oper}{g:Nat×Bool}{t:Nat}(ht:(ops[g.1]?).bind (·.dst)=some t){o:Oper}(hsg:zOr g o=true){e1:Env}(het:e1 t ≠ .bool g.2):act ops o e1=some false:=by
 by_cases hb:∃ b,e1 t = .bool b
 ·obtain⟨b,hb⟩:=hb
  rw[zSr ht hsg hb]
  have:b≠g.2:=fun e=>het (e ▸ hb)
  cases b <;> cases hg:g.2 <;> simp_all
 ·unfold zOr at hsg
  unfold act
  cases hg:o.guard with
  | none=>simp[hg]at hsg
  | some g' =>
   obtain⟨j,b⟩:=g'
   rw[hg]at hsg
   simp only[Bool.and_eq_true,beq_iff_eq]at hsg
   obtain⟨h1,h2⟩:=hsg
   have hj:j=g.1:=Nat.eq_of_beq_eq_true h1
   subst hj h2
   simp only[ht]
   cases hv:e1 t <;> first
    | rfl
    | exact absurd ⟨_,hv⟩ hb
theorem zRI {P:Program}{ops:Array Oper}{g:Nat×Bool}{t:Nat}(ht:(ops[g.1]?).bind (·.dst)=some t):∀ (l:List Item) (D D1:List Nat) (e e1:Env) (H:zAd) (K:Env->zAd->Prop),
  (∀ x ∈ l,zOr g x.1=true/\(∀ cs b,x.1.op ≠ .select cs b))->t ∉ zF9 (zCM l)->zHg l D=some D1->zDM D e e1->e1 t = .bool g.2->zVM P l e H K ->
  zKi P ops l e1 H fun e1' h=>∃ e',K e' h/\zDM D1 e' e1'/\∀ i,i ∉ zF9 (zCM l)->e1' i=e1 i
 | [],D,D1,e,e1,H,K,_,_,hc,ha,_,h=>by
  simp only[zHg,Option.some.injEq]at hc
  subst hc
  exact⟨e,h,ha,fun _ _=>rfl⟩
 | (o,rs) :: l,D,D1,e,e1,H,K,hm,hnt,hc,ha,het,h=>by
  simp only[zHg]at hc
  cases hok:(zAaD D o && rs.all (zAaE (addD o.dst D))) with
  | false=>rw[hok]at hc;cases hc
  | true =>
   rw[hok]at hc
   simp only[Bool.and_eq_true]at hok
   obtain⟨hok,hre⟩:=hok
   obtain⟨hsg,hsel⟩:=hm (o,rs) (by simp)
   have hdt:o.dst≠some t:=fun hd=>hnt (zJr hd (by simp[zCM]))
   have hact:act ops o e1=some true:=by rw[zSr ht hsg het];simp
   refine .inl ⟨hact,?_⟩
   refine zLb hsel (zLd hok ha) (zEA h fun v h' hh=>?_)
   obtain⟨hr,hh⟩:=zQp.1 hh
   have hnt':t ∉ zF9 (zCM l):=fun hm=>hnt (by
    simp only[zCM,zF9,addD];cases o.dst <;> simp[hm])
   refine⟨fun j hj=>zSq (List.all_eq_true.1 hre j hj) ha.put (hr j hj),?_⟩
   refine zKi.mono (zRI ht l (addD o.dst D) D1 (e.put o.dst v) (e1.put o.dst v) h' K (fun o ho=>hm o (by simp[ho])) hnt' hc ha.put (by rw[zHf hdt];exact het) hh) ?_
   rintro e1' h ⟨e',hk,hag,hun⟩
   refine⟨e',hk,hag,fun i hi=>?_⟩
   have hi':i ∉ zF9 (zCM l):=fun hm=>hi (by simp only[zCM,zF9,addD];cases o.dst <;> simp[hm])
   rw[hun i hi',zHf (fun hd=>hi (zJr hd (by simp[zCM])))]
theorem zTw {P:Program}{ops:Array Oper}{g:Nat×Bool}{t:Nat}(ht:(ops[g.1]?).bind (·.dst)=some t):∀ (l:List Item) (e1:Env) (H:zAd) (K:Env->zAd->Prop),
  (∀ x ∈ l,zOr g x.1=true)->t ∉ zF9 (zCM l)->e1 t ≠ .bool g.2->(∀ e1':Env,(∀ i,i ∈ zF9 (zCM l)->e1' i=undef)->(∀ i,i ∉ zF9 (zCM l)->e1' i=e1 i)->K e1' H)->zKi P ops l e1 H K
 | [],e1,H,K,_,_,_,h=>h e1 (fun i hi=>by simp[zCM,zF9]at hi) (fun _ _=>rfl)
 | (o,rs) :: l,e1,H,K,hm,hnt,het,h=>by
  have hdt:o.dst≠some t:=fun hd=>hnt (zJr hd (by simp[zCM]))
  have hsg:=hm (o,rs) (by simp)
  have hact:act ops o e1=some false:=zTv ht hsg het
  refine .inr ⟨hact,?_⟩
  have hnt':t ∉ zF9 (zCM l):=fun hm=>hnt (by simp only[zCM,zF9,addD];cases o.dst <;> simp[hm])
  refine zTw ht l (e1.put o.dst undef) H K (fun o ho=>hm o (by simp[ho])) hnt' (by rw[zHf hdt];exact het) fun e1' h1 h2=>h e1' (fun i hi=>?_) (fun i hi=>?_)
  ·by_cases hl:i ∈ zF9 (zCM l)
   ·exact h1 i hl
   ·rw[h2 i hl]
    have:o.dst=some i:=by
     simp only[zCM,zF9,addD]at hi
     cases hd:o.dst with
     | none=>rw[hd]at hi;exact absurd hi hl
     | some d =>
      rw[hd]at hi
      rcases List.mem_cons.1 hi with rfl | hi
      ·rfl
      ·exact absurd hi hl
    rw[this,zLc]
  ·have hi':i ∉ zF9 (zCM l):=fun hm=>hi (by simp only[zCM,zF9,addD];cases o.dst <;> simp[hm])
   rw[h2 i hi',zHf (fun hd=>hi (zJr hd (by simp[zCM])))]
theorem zOt:∀ {l:List Item} {D D1:List Nat},zHg l D=some D1->∀ i,i ∈ zF9 (zCM l)\/i ∈ D->i ∈ D1
 | [],D,D1,h,i,hi=>by
  simp only[zHg,Option.some.injEq]at h
  subst h
  rcases hi with hi | hi
  ·simp[zCM,zF9]at hi
  ·exact hi
 | (o,rs) :: l,D,D1,h,i,hi=>by
  simp only[zHg]at h
  cases hok:(zAaD D o && rs.all (zAaE (addD o.dst D))) with
  | false=>rw[hok]at h;cases h
  | true =>
   rw[hok]at h
   refine zOt h i ?_
   simp only[zCM,zF9,addD]at hi ⊢
   cases hd:o.dst with
   | none=>rw[hd]at hi;exact hi
   | some d =>
    rw[hd]at hi
    rcases hi with hi | hi
    ·rcases List.mem_cons.1 hi with rfl | hi
     ·exact .inr (by simp)
     ·exact .inl hi
    ·exact .inr (by simp[hi])
theorem zOu {P:Program}{V:List Nat}{ops:Array Oper}:∀ (f:Nat) (l:List Item) (D D':List Nat) (e e1:Env) (H:zAd) (K:Env->zAd->Prop),(∀ x ∈ l,∀ cs b,x.1.op ≠ .select cs b) ->
  zOs V ops f l D=some D'->zDM D e e1->zAcb P V ops f l e H K->zKi P ops l e1 H fun e1' h=>∃ e',K e' h/\zDM D' e' e1'
 | 0,_,_,_,_,_,_,_,_,hc,_,_=>by simp[zOs]at hc
 | f+1,[],D,D',e,e1,H,K,_,hc,ha,h=>by
  simp only[zOs,Option.some.injEq]at hc
  subst hc
  exact⟨e,h,ha⟩
 | f+1,(o,rs) :: rest,D,D',e,e1,H,K,hsel,hc,ha,h=>by
  simp only[zOs]at hc
  simp only[zAcb]at h
  cases hg:o.guard with
  | none =>
   simp only[hg]at hc h
   cases hok:(zAaD D o && rs.all (zAaE (addD o.dst D))) with
   | false=>rw[hok]at hc;cases hc
   | true =>
    rw[hok]at hc
    simp only[Bool.and_eq_true]at hok
    obtain⟨hok,hre⟩:=hok
    refine .inl ⟨by simp[act,hg],?_⟩
    refine zLb (hsel (o,rs) (by simp)) (zLd hok ha) (zEA h fun v h' hh=>?_)
    obtain⟨hr,hh⟩:=zQp.1 hh
    exact⟨fun j hj=>zSq (List.all_eq_true.1 hre j hj) ha.put (hr j hj),zOu f rest (addD o.dst D) D' _ _ h' K (fun o ho=>hsel o (by simp[ho])) hc ha.put hh⟩
  | some g =>
   simp only[hg]at hc h
   cases ht:(ops[g.1]?).bind (·.dst) with
   | none=>simp[ht]at hc
   | some t =>
    simp only[ht]at hc h
    generalize hG:(o,rs) :: (zFZ g rest).1=G at hc h
    have hsplit:(o,rs) :: rest=G++(zFZ g rest).2:=by
     rw[<- hG,List.cons_append,<- zVN g rest]
    have hmG:∀ x ∈ G,zOr g x.1=true:=by
     intro x hx
     rw[<- hG]at hx
     rcases List.mem_cons.1 hx with rfl | hx
     ·simp[zOr,hg]
     ·exact zTu g rest x hx
    cases hck:(has D t && !has (zF9 (zCM G)) t) with
    | false=>rw[hck]at hc;cases hc
    | true =>
     rw[hck]at hc
     simp only[Bool.and_eq_true,Bool.not_eq_true']at hck
     obtain⟨hDt,hAt⟩:=hck
     have hnt:t ∉ zF9 (zCM G):=fun hm=>by rw[zBx.2 hm]at hAt;cases hAt
     cases hcp:zHg G D with
     | none=>simp[hcp]at hc
     | some D1 =>
      simp only[hcp,cond_true]at hc
      have hrest:∀ x ∈ (zFZ g rest).2,∀ cs b,x.1.op ≠ .select cs b:=fun x hx=>hsel x (by rw[hsplit];simp[hx])
      rw[hsplit]
      refine zPF ?_
      have idle:e1 t ≠ .bool g.2->Cur.app (both V (zF9 (zCM G)) V).length (Cur.of (both V (zF9 (zCM G)) V).length fun vs h=>zAcb P V ops f (zFZ g rest).2 (mg (zF9 (zCM G)) (both V (zF9 (zCM G)) V) e vs) h K) ((both V (zF9 (zCM G)) V).map fun _=>undef) H ->
        zKi P ops G e1 H fun e h=>zKi P ops (zFZ g rest).2 e h fun e1' h=>∃ e',K e' h/\zDM D' e' e1':=fun hne hk=>by
       refine zTw ht G e1 H _ hmG hnt hne fun e1' h1 h2=>?_
       rw[Cur.app_of (by simp)]at hk
       refine zOu f _ _ D' _ _ H K hrest hc ?_ hk
       refine zOq rfl ha h2 ?_
       refine List.map_congr_left fun i hi=>?_
       have:=(List.mem_filter.1 hi).2
       simp only[Bool.and_eq_true]at this
       exact(h1 i (zBx.1 this.1)).symm
      rcases h with ⟨b,heb,hyes,hno⟩ | ⟨hnb,hno⟩
      ·have het:e1 t = .bool b:=by rw[<- ha t (zBx.1 hDt)];exact heb
       by_cases hb:b=g.2
       ·subst hb
        refine zKi.mono (zRI ht G D D1 e e1 H _ (fun x hx=>⟨hmG x hx,hsel x (by rw[hsplit];simp[hx])⟩) hnt hcp ha het (hyes rfl)) ?_
        rintro e1' h' ⟨e',hk,hag,hun⟩
        rw[Cur.app_of (by simp)]at hk
        refine zOu f _ _ D' _ _ h' K hrest hc ?_ hk
        refine zOq rfl ha hun ?_
        refine List.map_congr_left fun i hi=>?_
        have:=(List.mem_filter.1 hi).2
        simp only[Bool.and_eq_true]at this
        exact hag i (zOt hcp i (.inl (zBx.1 this.1)))
       ·have hb':b = !g.2:=by cases b <;> cases hq:g.2 <;> simp_all
        exact idle (by rw[het];intro he;cases he;exact hb rfl) (hno hb')
      ·exact idle (by rw[<- ha t (zBx.1 hDt)];exact hnb _) hno
def zGE (ops:Array Oper)(rem:List Nat)(i:Nat):Bool:=match ops[i]? with
 | some o=>o.after.toList.all fun g=>!(Region.binds .any g && has rem g.on)
 | none=>false
def zSs (p:Nat->Bool):List Nat->Option Nat
 | []=>none
 | a :: l=>bif p a then some a else zSs p l
def zUM (P:Program)(ops:Array Oper)(i:Nat):Bool:=match ops[i]? with
 | some o=>Nat.ble (cls P o.op) 1
 | none=>false
def zAdw (P:Program)(ops:Array Oper):Nat->List Nat->List Nat
 | 0,_=>[]
 | f+1,rem=>match zSs (fun i=>zGE ops rem i && zUM P ops i) rem with
  | some i=>i :: zAdw P ops f (rem.filter fun j=>!Nat.beq i j)
  | none=>match zSs (zGE ops rem) rem with
   | some i=>i :: zAdw P ops f (rem.filter fun j=>!Nat.beq i j)
   | none=>[]
def uni:List Nat->List Nat->List Nat
 | [],m=>m
 | a :: l,m=>bif has m a then uni l m else uni l (a :: m)
def zX7 (o:Oper):List Nat:=o.after.toList.filterMap fun g=>bif Region.binds .any g then some g.on else none
def zAgS (acc:List (List Nat)):List Oper->List (List Nat)
 | []=>acc
 | o :: l=>zAgS (acc++[(zX7 o).foldl (fun m j=>uni (acc.getD j []) m) (zX7 o)]) l
def zAgA (ops:Array Oper):List (List Nat):=zAgS [] ops.toList
def zX8 (P:Program)(ops:Array Oper)(bef:List Nat)(i:Nat):List Nat:=match ops[i]? with
 | some o=>bif Nat.ble (cls P o.op) 1 then [] else bef.filter fun j=>match ops[j]? with
  | some oj=>Nat.beq (cls P oj.op) 1 && !has ((zAgA ops).getD i []) j
  | none=>false
 | none=>[]
def zUN (P:Program)(ops:Array Oper):List Nat->List Nat->List (Nat×List Nat)
 | _,[]=>[]
 | bef,i :: l=>(i,zX8 P ops bef i) :: zUN P ops (i :: bef) l
def lk:List (Nat×List Nat)->Nat->List Nat
 | [],_=>[]
 | (j,r) :: l,i=>bif Nat.beq i j then r else lk l i
def zTx (o:Oper)(l:List Nat):Bool:=match o.dst with
 | some d=>has l d
 | none=>false
def zAgB (P:Program)(ops:Array Oper)(tab:List (Nat×List Nat))(x y:Nat):Bool:=match ops[x]?,ops[y]? with
 | some ox,some oy =>
  (has ((zAgA ops).getD y []) x || (zQn P ops ox oy && (!(Nat.beq (cls P ox.op) 1) || Nat.ble (cls P oy.op) 1 || (has (lk tab y) x && ox.dst.isSome && !zTx ox (ox.looksAt ops))))) &&
  !(oy.after.toList.isEmpty && false) && !(ox.after.toList.any fun g=>Region.binds .any g && Nat.beq g.on y) &&
  (!(Nat.beq (cls P ox.op) 1) || (!zTx oy (ox.looksAt ops) && !zTx oy ox.dst.toList))
 | _,_=>false
def pwB (r:Nat->Nat->Bool):List Nat->Bool
 | []=>true
 | x :: l=>l.all (r x) && pwB r l
def ndB:List Nat->Bool
 | []=>true
 | x :: l=>!has l x && ndB l
def zAaF (n:Nat)(ops:Array Oper):Bool:=(List.range ops.size).all fun i=>match ops[i]? with
 | some o=>zUD n o && o.after.toList.all fun g=>!(Region.binds .any g) || (!Nat.beq g.on i && Nat.ble (g.on+1) ops.size)
 | none=>false
def zAaG (P:Program)(ops:Array Oper):List Nat:=zAdw P ops ops.size (List.range ops.size)
def zAcc (P:Program)(ops:Array Oper):List (Nat×List Nat):=zUN P ops [] (zAaG P ops)
def zX9 (P:Program)(n:Nat)(ops:Array Oper)(ord:List Nat):Bool :=
 P.follows .mixedOrders && zAaF n ops && ndB ord && ord.all (fun i=>Nat.ble (i+1) ops.size) && (List.range ops.size).all (has ord) && pwB (zAgB P ops (zAcc P ops)) ord
def zPG (ops:Array Oper):List (Nat×List Nat)->List Item
 | []=>[]
 | (i,rs) :: l=>match ops[i]? with
  | some o=>(o,rs.filterMap (ops[·]?)) :: zPG ops l
  | none=>zPG ops l
def zH5:List Oper->List Item
 | []=>[]
 | o :: l=>(o,[]) :: zH5 l
def zPH (P:Program)(ops:Array Oper)(draw:Bool):List Item:=bif draw then zPG ops (zAcc P ops) else zH5 ops.toList
theorem zVO {r:Nat->Nat->Bool}:∀ {l:List Nat},pwB r l=true->l.Pairwise fun a b=>r a b=true
 | [],_ => .nil
 | x :: l,h=>by
  simp only[pwB,Bool.and_eq_true]at h
  exact .cons (fun y hy=>List.all_eq_true.1 h.1 y hy) (zVO h.2)
theorem zP6:∀ {l:List Nat},ndB l=true->l.Nodup
 | [],_ => .nil
 | x :: l,h=>by
  simp only[ndB,Bool.and_eq_true,Bool.not_eq_true']at h
  exact List.nodup_cons.2 ⟨fun hm=>(by rw[zBx.2 hm]at h;cases h.1),zP6 h.2⟩
theorem zYa {l m:List Nat}{x:Nat}:x ∈ uni l m->x ∈ l\/x ∈ m:=by
 induction l generalizing m with
 | nil=>exact .inr
 | cons a l ih =>
  simp only[uni]
  cases has m a with
  | true=>intro h;rcases ih h with h | h <;> simp[h]
  | false=>intro h;rcases ih h with h | h <;> simp_all;rcases h with h | h <;> simp[h]
theorem zTy {o:Oper}{x:Nat}(h:x ∈ zX7 o):∃ g ∈ o.after,Region.binds .any g=true/\g.on=x:=by
 obtain⟨g,hg,hx⟩:=List.mem_filterMap.1 h
 cases hb:Region.binds .any g with
 | false=>rw[hb]at hx;cases hx
 | true=>rw[hb]at hx;cases hx;exact⟨g,Array.mem_toList_iff.1 hg,hb,rfl⟩
theorem zVP {acc:List (List Nat)}{x:Nat}:∀ {l m:List Nat},x ∈ l.foldl (fun m j=>uni (acc.getD j []) m) m->x ∈ m\/∃ j ∈ l,x ∈ acc.getD j []
 | [],m,h => .inl h
 | j :: l,m,h=>by
  rcases zVP (l:=l) h with h | ⟨j',hj,h⟩
  ·rcases zYa h with h | h
   ·exact .inr ⟨j,by simp,h⟩
   ·exact .inl h
  ·exact .inr ⟨j',by simp[hj],h⟩
theorem zTz {ops:Array Oper}:∀ (l:List Oper) (acc:List (List Nat)),(∀ j o,l[j]? = some o->ops[acc.length+j]? = some o)->(∀ y x,x ∈ acc.getD y []->Anc ops x y)->∀ y x,x ∈ (zAgS acc l).getD y []->Anc ops x y
 | [],acc,_,h,y,x,hx=>h y x hx
 | o :: l,acc,hl,h,y,x,hx=>by
  refine zTz l (acc++[(zX7 o).foldl (fun m j=>uni (acc.getD j []) m) (zX7 o)]) (fun j o' ho'=>?_) (fun y x hx=>?_) y x hx
  ·have:=hl (j+1) o' (by simpa using ho')
   rw[List.length_append]
   simp only[List.length_cons,List.length_nil]
   rw[show acc.length+(0+1)+j=acc.length+(j+1) by omega]
   exact this
  ·rw[List.getD_eq_getElem?_getD,List.getElem?_append]at hx
   split at hx
   ·exact h y x (by rw[List.getD_eq_getElem?_getD];exact hx)
   ·by_cases hy:y=acc.length
    ·subst hy
     simp only[Nat.sub_self,List.getElem?_cons_zero,Option.getD_some]at hx
     have ho:ops[acc.length]? = some o:=by simpa using hl 0 o (by simp)
     rcases zVP hx with hx | ⟨j,hj,hx⟩
     ·exact .one ⟨o,ho,zTy hx⟩
     ·exact .more (h j x hx) ⟨o,ho,zTy hj⟩
    ·rename_i hlt
     rw[List.getElem?_eq_none (by simp;omega)]at hx
     simp at hx
theorem zTA {ops:Array Oper}{x y:Nat}(h:has ((zAgA ops).getD y []) x=true):Anc ops x y :=
 zTz ops.toList [] (fun j o ho=>by simpa using ho) (fun y x hx=>by simp at hx) y x (zBx.1 h)
theorem zYb {o:Oper}{x:Nat}:(o.after.toList.any fun g=>Region.binds .any g && Nat.beq g.on x)=true↔∃ g ∈ o.after,Region.binds .any g=true/\g.on=x:=by
 simp only[List.any_eq_true,Bool.and_eq_true]
 constructor
 ·rintro⟨g,hg,hb,hx⟩;exact⟨g,Array.mem_toList_iff.1 hg,hb,Nat.eq_of_beq_eq_true hx⟩
 ·rintro⟨g,hg,hb,rfl⟩;exact⟨g,Array.mem_toList_iff.2 hg,hb,Nat.beq_refl _⟩
theorem zH6 {o:Oper}{l:List Nat}(h:zTx o l=false){d:Nat}(hd:o.dst=some d):d ∉ l:=by
 intro hm
 simp only[zTx,hd]at h
 rw[zBx.2 hm]at h
 cases h
theorem zYc {P:Program}{ops:Array Oper}{tab:List (Nat×List Nat)}{x y:Nat}(h:zAgB P ops tab x y=true):Rel P ops (lk tab) x y:=by
 unfold zAgB at h
 cases hx:ops[x]? with
 | none=>simp[hx]at h
 | some ox =>
  cases hy:ops[y]? with
  | none=>simp[hx,hy]at h
  | some oy =>
   simp only[hx,hy,Bool.and_eq_true,Bool.or_eq_true,Bool.not_eq_true']at h
   obtain⟨⟨⟨h1,_⟩,h2⟩,h3⟩:=h
   refine⟨?_,?_,?_⟩
   ·rcases h1 with h1 | ⟨h1,h4⟩
    ·exact .inl (zTA h1)
    ·refine .inr ⟨ox,oy,hx,hy,h1,fun c1 c0 c2=>?_⟩
     rcases h4 with (h4 | h4) | ⟨⟨h4,h5⟩,h6⟩
     ·rw[c1]at h4;cases h4
     ·rcases zAdu.1 h4 with h4 | h4
      ·exact absurd h4 c0
      ·exact absurd h4 c2
     ·obtain⟨d,hd⟩:=Option.isSome_iff_exists.1 h5
      exact⟨zBx.1 h4,d,hd,zH6 h6 hd⟩
   ·rintro⟨ox',hox',g,hg,hb,hgo⟩
    rw[hx]at hox';cases hox'
    rw[zYb.2 ⟨g,hg,hb,hgo⟩]at h2
    cases h2
   ·intro ox' oy' hx' hy' c1 d hd
    rw[hx]at hx';cases hx'
    rw[hy]at hy';cases hy'
    rcases h3 with h3 | ⟨h3,h4⟩
    ·rw[c1]at h3;cases h3
    ·refine⟨zH6 h3 hd,fun he=>?_⟩
     exact zH6 h4 hd (by rw[he];simp)
theorem zAcd {tab:List (Nat×List Nat)}{i k:Nat}(h:k ∈ lk tab i):∃ r,(i,r) ∈ tab/\k ∈ r:=by
 induction tab with
 | nil=>simp[lk]at h
 | cons p tab ih =>
  obtain⟨j,r⟩:=p
  simp only[lk]at h
  cases hb:Nat.beq i j with
  | true=>rw[hb]at h;have:=Nat.eq_of_beq_eq_true hb;subst this;exact⟨r,by simp,h⟩
  | false=>rw[hb]at h;obtain⟨r',h1,h2⟩:=ih h;exact⟨r',by simp[h1],h2⟩
theorem zQq {P:Program}{ops:Array Oper}{i:Nat}{r:List Nat}:∀ {l bef:List Nat},(i,r) ∈ zUN P ops bef l->∃ b,r=zX8 P ops b i
 | [],_,h=>by simp[zUN]at h
 | x :: l,bef,h=>by
  simp only[zUN,List.mem_cons,Prod.mk.injEq]at h
  rcases h with ⟨rfl,rfl⟩ | h
  ·exact⟨bef,rfl⟩
  ·exact zQq h
theorem zTB {P:Program}{ops:Array Oper}:∀ {l bef:List Nat},(zUN P ops bef l).map (·.1)=l
 | [],_=>rfl
 | x :: l,bef=>by simp[zUN,zTB (l:=l)]
theorem zTC:∀ {tab:List (Nat×List Nat)} {i:Nat} {r:List Nat},(tab.map (·.1)).Nodup->(i,r) ∈ tab->lk tab i=r
 | (j,r') :: tab,i,r,hn,h=>by
  simp only[List.map_cons,List.nodup_cons]at hn
  simp only[lk]
  rcases List.mem_cons.1 h with h | h
  ·cases h;rw[Nat.beq_refl];rfl
  ·have hne:Nat.beq i j=false:=by
    cases hb:Nat.beq i j with
    | false=>rfl
    | true=>exact absurd (List.mem_map.2 ⟨(i,r),h,Nat.eq_of_beq_eq_true hb⟩) hn.1
   rw[hne]
   exact zTC hn.2 h
theorem zQr {P:Program}{ops:Array Oper}{tab0:List (Nat×List Nat)}:∀ {tab:List (Nat×List Nat)} {seen:List Nat} {e:Env} {H:zAd} {K:Env->zAd->Prop},(∀ i r,(i,r) ∈ tab->lk tab0 i=r/\i<ops.size) ->
  zKi P ops (zPG ops tab) e H K->zNv P ops (lk tab0) seen (tab.map (·.1)) e H K
 | [],_,_,_,_,_,h=>h
 | (i,r) :: tab,seen,e,H,K,ht,h=>by
  obtain⟨h1,hlt⟩:=ht i r (by simp)
  have ho:ops[i]? = some ops[i]:=Array.getElem?_eq_getElem hlt
  simp only[zPG,ho]at h
  simp only[List.map_cons,zNv,ho]
  refine zFm.mono h (fun e h hr j hj _ oj hoj=>hr oj ?_) fun e h hh=>zQr (fun i r hm=>ht i r (by simp[hm])) hh
  rw[h1]at hj
  exact List.mem_filterMap.2 ⟨j,hj,hoj⟩
theorem zQs {P:Program}{ops:Array Oper}:∀ {l:List Oper} {e:Env} {H:zAd} {K:Env->zAd->Prop},zKi P ops (zH5 l) e H K->zUK P false ops l e H K
 | [],_,_,_,h=>h
 | o :: l,e,H,K,h=>(zFm.step h).mono fun e h hh=>zQs hh
theorem zO7 {P:Program}{ops:Array Oper}:∀ {l:List Item} {e:Env} {H:zAd} {K:Env->zAd->Prop},zKi P ops l e H K->zKi P ops l e H fun e' h=>K e' h/\∀ i,i ∉ zF9 (zCM l)->e' i=e i
 | [],e,H,K,h=>⟨h,fun _ _=>rfl⟩
 | (o,rs) :: l,e,H,K,h=>by
  have step:∀ v h',zKi P ops l (e.put o.dst v) h' K->zKi P ops l (e.put o.dst v) h' fun e' h=>K e' h/\∀ i,i ∉ zF9 (zCM ((o,rs) :: l))->e' i=e i:=fun v h' hh =>
   zKi.mono (zO7 hh) fun e' h'' hk=>⟨hk.1,fun i hi=>by
    have hi':i ∉ zF9 (zCM l):=fun hm=>hi (by simp only[zCM,zF9,addD];cases o.dst <;> simp[hm])
    rw[hk.2 i hi',zHf (fun hd=>hi (zJr hd (by simp[zCM])))]⟩
  rcases h with ⟨a,h⟩ | ⟨a,h⟩
  ·exact .inl ⟨a,zEA h fun v h' hh=>⟨hh.1,step v h' hh.2⟩⟩
  ·exact .inr ⟨a,step undef H h⟩
theorem zAaH {l m:List Oper}(h:∀ o ∈ l,o ∈ m){i:Nat}(hi:i ∈ zF9 l):i ∈ zF9 m:=by
 induction l with
 | nil=>simp[zF9]at hi
 | cons o l ih =>
  simp only[zF9,addD]at hi
  cases hd:o.dst with
  | none=>rw[hd]at hi;exact ih (fun o ho=>h o (by simp[ho])) hi
  | some d =>
   rw[hd]at hi
   rcases List.mem_cons.1 hi with rfl | hi
   ·exact zJr hd (h o (by simp))
   ·exact ih (fun o ho=>h o (by simp[ho])) hi
theorem zTD:∀ {l:List Oper},zCM (zH5 l)=l
 | []=>rfl
 | o :: l=>by simp[zH5,zCM,zTD (l:=l)]
theorem zP7 {ops:Array Oper}:∀ {tab:List (Nat×List Nat)} {x:Item},x ∈ zPG ops tab->∃ i:Nat,ops[i]? = some x.1
 | [],x,h=>by simp[zPG]at h
 | (i,r) :: tab,x,h=>by
  simp only[zPG]at h
  cases ho:ops[i]? with
  | none=>rw[ho]at h;exact zP7 h
  | some o =>
   rw[ho]at h
   rcases List.mem_cons.1 h with rfl | h
   ·exact⟨i,ho⟩
   ·exact zP7 h
theorem zRJ {o:Oper}:∀ {l:List Item},o ∈ zCM l->∃ x ∈ l,x.1=o
 | (o',rs) :: l,h=>by
  rcases List.mem_cons.1 h with rfl | h
  ·exact⟨(o,rs),by simp,rfl⟩
  ·obtain⟨x,hx,e⟩:=zRJ h;exact⟨x,by simp[hx],e⟩
theorem zTE {x:Item}:∀ {l:List Oper},x ∈ zH5 l->x.1 ∈ l
 | o :: l,h=>by
  rcases List.mem_cons.1 h with rfl | h
  ·simp
  ·simp[zTE h]
inductive Tr where
 | done
 | stop
 | lt (i:Nat) (t:Tr)
 | hv (i:Nat) (rs:List Nat) (t more:Tr)
def del (i:Nat)(l:List Nat):List Nat:=l.filter fun j=>!Nat.beq i j
def alts (g:Nat->Tr->Tr):List Nat->Tr
 | [] => .stop
 | i :: l=>g i (alts g l)
def zYd (P:Program)(ops:Array Oper):Nat->List Nat->List Nat->Tr
 | 0,_,_ => .done
 | f+1,bef,rem=>match zSs (fun i=>zGE ops rem i && zUM P ops i) rem with
  | some i => .lt i (zYd P ops f (i :: bef) (del i rem))
  | none=>match rem with
   | [] => .done
   | _ :: _=>alts (fun i more => .hv i (zX8 P ops bef i) (zYd P ops f (i :: bef) (del i rem)) more) (rem.filter (zGE ops rem))
def zAdx (P:Program)(ops:Array Oper)(rs:List Nat)(i j:Nat):Bool:=match ops[j]?,ops[i]? with
 | some oj,some oi =>
  (!(Nat.ble (cls P oj.op) 1) || has ((zAgA ops).getD i []) j || (zQn P ops oj oi && (!(Nat.beq (cls P oj.op) 1) || Nat.ble (cls P oi.op) 1 || (has rs j && oj.dst.isSome && !zTx oj (oj.looksAt ops))))) &&
  (!(Nat.beq (cls P oj.op) 1) || (!zTx oi (oj.looksAt ops) && !zTx oi oj.dst.toList))
 | _,_=>false
def zUO:Tr->Nat->Bool
 | .hv i _ _ more,y=>Nat.beq i y || zUO more y
 | _,_=>false
def zYe (P:Program)(ops:Array Oper)(k:Nat):Bool:=match ops[k]? with
 | some o=>Nat.beq (cls P o.op) 1
 | none=>false
def wfT (P:Program)(ops:Array Oper):Tr->List Nat->List Nat->Bool->Bool
 | .done,rem,_,top=>top && rem.isEmpty
 | .stop,_,_,top=>!top
 | .lt i t,rem,bef,top=>top && (has rem i && (zGE ops rem i && (zUM P ops i && (bef.all (zAdx P ops [] i) && wfT P ops t (del i rem) (i :: bef) true))))
 | .hv i rs t more,rem,bef,top=>(!top || rem.all fun y=>!zGE ops rem y || zUO (.hv i rs t more) y) && (has rem i && (zGE ops rem i && (!zUM P ops i && (bef.all (zAdx P ops rs i) &&
   (rs.all (zYe P ops) && (wfT P ops t (del i rem) (i :: bef) true && wfT P ops more rem bef false))))))
def zJs (P:Program)(ops:Array Oper):List Nat->Tr->Env->zAd->(Env->zAd->Prop)->Prop
 | _,.done,e,H,K=>K e H
 | _,.stop,_,_,_=>True
 | seen,.lt i t,e,H,K=>match ops[i]? with
  | none=>False
  | some o=>zFm P ops o e H (Ob P ops (fun _=>[]) seen i) fun e' h'=>zJs P ops (i :: seen) t e' h' K
 | seen,.hv i rs t more,e,H,K=>(match ops[i]? with
  | none=>False
  | some o=>zFm P ops o e H (Ob P ops (fun _=>rs) seen i) fun e' h'=>zJs P ops (i :: seen) t e' h' K)/\zJs P ops seen more e H K
theorem zO8 {i j:Nat}{l:List Nat}:j ∈ del i l↔j ∈ l/\j≠i:=by
 unfold del
 rw[List.mem_filter]
 constructor
 ·rintro⟨h,hb⟩
  refine⟨h,fun e=>?_⟩
  subst e
  rw[Nat.beq_refl]at hb;cases hb
 ·rintro⟨h,hne⟩
  refine⟨h,?_⟩
  cases hb:Nat.beq i j with
  | false=>rfl
  | true=>exact absurd (Nat.eq_of_beq_eq_true hb).symm hne
theorem zAaI {i j:Nat}{l:List Nat}:del i (del j l)=del j (del i l):=by
 unfold del
 rw[List.filter_filter,List.filter_filter]
 congr 1;funext x;exact Bool.and_comm _ _
theorem zAfb {i:Nat}{l:List Nat}(h:i ∈ l):(del i l).length<l.length:=by
 unfold del
 induction l with
 | nil=>cases h
 | cons a l ih =>
  rw[List.filter_cons]
  by_cases hai:i=a
  ·subst hai
   rw[Nat.beq_refl]
   simp only[Bool.not_true,Bool.false_eq_true,if_false,List.length_cons]
   exact Nat.lt_succ_of_le (List.length_filter_le _ _)
  ·have hm:=(List.mem_cons.1 h).resolve_left hai
   have:=ih hm
   split
   ·simp only[List.length_cons];omega
   ·simp only[List.length_cons];omega
theorem zPI {ops:Array Oper}{rem rem':List Nat}{i:Nat}(h:zGE ops rem i=true)(hs:∀ x,x ∈ rem'->x ∈ rem):zGE ops rem' i=true:=by
 unfold zGE at h ⊢
 cases ho:ops[i]? with
 | none=>simp[ho]at h
 | some o =>
  simp only[ho,List.all_eq_true,Bool.not_eq_true',Bool.and_eq_false_imp]at h ⊢
  intro g hg hb
  have:=h g hg hb
  cases hr:has rem' g.on with
  | false=>rfl
  | true=>rw[zBx.2 (hs _ (zBx.1 hr))]at this;cases this
theorem zJs.less {P:Program}{ops:Array Oper}:∀ {t:Tr} {seen seen':List Nat} {e:Env} {H:zAd} {K:Env->zAd->Prop},(∀ k,k ∈ seen'->k ∈ seen)->zJs P ops seen t e H K->zJs P ops seen' t e H K
 | .done,_,_,_,_,_,_,h=>h
 | .stop,_,_,_,_,_,_,_=>trivial
 | .lt i t,seen,seen',e,H,K,hs,h=>by
  simp only[zJs]at h ⊢
  cases ho:ops[i]? with
  | none=>simp[ho]at h
  | some o =>
   simp only[ho]at h ⊢
   exact zFm.mono h (fun e' h' a j hj hm=>a j hj (hs j hm)) fun e' h' b=>zJs.less (fun k hk=>by
    rcases List.mem_cons.1 hk with rfl | hk
    ·simp
    ·simp[hs k hk]) b
 | .hv i rs t more,seen,seen',e,H,K,hs,h=>by
  simp only[zJs]at h ⊢
  refine⟨?_,zJs.less hs h.2⟩
  have h:=h.1
  cases ho:ops[i]? with
  | none=>simp[ho]at h
  | some o =>
   simp only[ho]at h ⊢
   exact zFm.mono h (fun e' h' a j hj hm=>a j hj (hs j hm)) fun e' h' b=>zJs.less (fun k hk=>by
    rcases List.mem_cons.1 hk with rfl | hk
    ·simp
    ·simp[hs k hk]) b
theorem zQt {P:Program}{ops:Array Oper}:∀ {t:Tr} {rem bef bef':List Nat} {top:Bool},(∀ k,k ∈ bef'->k ∈ bef)->wfT P ops t rem bef top=true->wfT P ops t rem bef' top=true
 | .done,_,_,_,_,_,h=>h
 | .stop,_,_,_,_,_,h=>h
 | .lt i t,rem,bef,bef',top,hs,h=>by
  simp only[wfT,Bool.and_eq_true]at h ⊢
  obtain⟨h1,h2,h3,h4,h5,h6⟩:=h
  exact⟨h1,h2,h3,h4,List.all_eq_true.2 fun k hk=>List.all_eq_true.1 h5 k (hs k hk),zQt (fun k hk=>by
    rcases List.mem_cons.1 hk with rfl | hk
    ·simp
    ·simp[hs k hk]) h6⟩
 | .hv i rs t more,rem,bef,bef',top,hs,h=>by
  simp only[wfT,Bool.and_eq_true]at h ⊢
  obtain⟨h1,h2,h3,h4,h5,h6,h7,h8⟩:=h
  exact⟨h1,h2,h3,h4,List.all_eq_true.2 fun k hk=>List.all_eq_true.1 h5 k (hs k hk),h6,zQt (fun k hk=>by
    rcases List.mem_cons.1 hk with rfl | hk
    ·simp
    ·simp[hs k hk]) h7,zQt hs h8⟩
theorem zRK {P:Program}{ops:Array Oper}{i:Nat}{o:Oper}(ho:ops[i]? = some o):zUM P ops i=true↔(cls P o.op=0\/cls P o.op=1):=by
 unfold zUM
 simp only[ho]
 exact zAdu
theorem zYf {P:Program}{ops:Array Oper}{rs:List Nat}{i j:Nat}(h:zAdx P ops rs i j=true){oj oi:Oper}(hj:ops[j]? = some oj)(hi:ops[i]? = some oi)(hc:cls P oj.op=1):∀ t,oi.dst=some t->t ∉ oj.looksAt ops/\oj.dst≠some t:=by
 intro d hd
 simp only[zAdx,hj,hi,Bool.and_eq_true,Bool.or_eq_true,Bool.not_eq_true']at h
 rcases h.2 with h3 | ⟨h3,h4⟩
 ·rw[hc]at h3;cases h3
 ·refine⟨zH6 h3 hd,fun he=>?_⟩
  exact zH6 h4 hd (by rw[he];simp)
theorem zYg {P:Program}{ops:Array Oper}{rs:List Nat}{i j:Nat}(h:zAdx P ops rs i j=true){oj oi:Oper}(hj:ops[j]? = some oj)(hi:ops[i]? = some oi)(hl:cls P oj.op=0\/cls P oj.op=1)(hna:¬ Anc ops j i) :
  zQn P ops oj oi=true/\(cls P oj.op=1->cls P oi.op≠0->cls P oi.op≠1->j ∈ rs/\∃ d,oj.dst=some d/\d ∉ oj.looksAt ops):=by
 simp only[zAdx,hj,hi,Bool.and_eq_true,Bool.or_eq_true,Bool.not_eq_true']at h
 rcases h.1 with (h1 | h1) | ⟨h1,h4⟩
 ·rw[zAdu.2 hl]at h1;cases h1
 ·exact absurd (zTA h1) hna
 ·refine⟨h1,fun c1 c0 c2=>?_⟩
  rcases h4 with (h4 | h4) | ⟨⟨h4,h5⟩,h6⟩
  ·rw[c1]at h4;cases h4
  ·rcases zAdu.1 h4 with h4 | h4
   ·exact absurd h4 c0
   ·exact absurd h4 c2
  ·obtain⟨d,hd⟩:=Option.isSome_iff_exists.1 h5
   exact⟨zBx.1 h4,d,hd,zH6 h6 hd⟩
theorem pull {P:Program}{ops:Array Oper}(hsel:∀ (x:Nat) (o:Oper),ops[x]? = some o->∀ cs b,o.op ≠ .select cs b){i:Nat}{o:Oper}(ho:ops[i]? = some o):∀ (t:Tr) (rem bef:List Nat) (top:Bool),wfT P ops t rem bef top=true->i ∈ rem->zGE ops rem i=true ->
  (top=false->zUO t i=true)->(∀ j ∈ rem,¬ Anc ops j i) ->
  ∃ t' rs,(∀ k ∈ bef,zAdx P ops rs i k=true)/\(∀ k ∈ rs,zYe P ops k=true)/\(zUM P ops i=true->rs=[])/\wfT P ops t' (del i rem) bef true=true /\
   ∀ seen,(∀ k ∈ seen,k ∈ bef)->∀ (e:Env) (H:zAd) (K:Env->zAd->Prop),zJs P ops seen t e H K->zFm P ops o e H (Ob P ops (fun _=>rs) seen i) fun e1 h1=>zJs P ops seen t' e1 h1 K
 | .done,rem,bef,top,hw,hi,_,_,_=>by
  simp only[wfT,Bool.and_eq_true,List.isEmpty_iff]at hw
  rw[hw.2]at hi;cases hi
 | .stop,rem,bef,top,hw,hi,_,hh,_=>by
  simp only[wfT,Bool.not_eq_true']at hw
  have:=hh hw
  simp[zUO]at this
 | .lt j t,rem,bef,top,hw,hi,hr,hh,hna=>by
  simp only[wfT,Bool.and_eq_true]at hw
  obtain⟨h1,h2,h3,h4,h5,h6⟩:=hw
  have hjr:=zBx.1 h2
  by_cases hij:i=j
  ·subst hij
   refine⟨t,[],fun k hk=>List.all_eq_true.1 h5 k hk,fun k hk=>(by cases hk),fun _=>rfl,zQt (fun k hk=>by simp[hk]) h6,fun seen hs e H K h=>?_⟩
   simp only[zJs,ho]at h
   exact zFm.mono h (fun _ _ a=>a) fun e1 h1 b=>zJs.less (fun k hk=>by simp[hk]) b
  ·obtain⟨t',rs,g1,g2,g3,g4,g5⟩:=pull hsel ho t (del j rem) (j :: bef) true h6 (zO8.2 ⟨hi,hij⟩) (zPI hr fun x hx=>(zO8.1 hx).1) (fun h=>by cases h) fun k hk=>hna k (zO8.1 hk).1
   refine⟨.lt j t',rs,fun k hk=>g1 k (by simp[hk]),g2,g3,?_,fun seen hs e H K h=>?_⟩
   ·simp only[wfT,Bool.and_eq_true]
    refine⟨by trivial,zBx.2 (zO8.2 ⟨hjr,fun e=>hij e.symm⟩),zPI h3 fun x hx=>(zO8.1 hx).1,h4,h5,?_⟩
    rw[zAaI];exact g4
   ·cases hj:ops[j]? with
    | none=>simp[zJs,hj]at h
    | some oj =>
     simp only[zJs,hj]at h ⊢
     have hcj:=(zRK hj).1 h4
     have hx:zFm P ops oj e H (Ob P ops (fun _=>[]) seen j) fun e1 h1=>zFm P ops o e1 h1 (Ob P ops (fun _=>rs) (j :: seen) i) fun e2 h2=>zJs P ops (j :: seen) t' e2 h2 K :=
      zFm.mono h (fun _ _ a=>a) fun e1 h1 b=>g5 (j :: seen) (fun k hk=>by
       rcases List.mem_cons.1 hk with rfl | hk
       ·simp
       ·simp[hs k hk]) e1 h1 K b
     obtain⟨hok,hre⟩:=zYg (g1 j (by simp)) hj ho hcj (hna j hjr)
     refine swap (hsel j _ hj) (hsel i _ ho) hok (Ci':=Ob P ops (fun _=>rs) seen i) ?_ ?_ hx
     ·intro hi0
      have:=g3 ((zRK ho).2 (.inl hi0))
      subst this
      exact⟨fun e h k hk=>(by cases hk),fun e h v hc k hk=>(by cases hk)⟩
     ·intro hi0
      refine⟨fun e h k hk=>(by cases hk),fun e h v hc k hk hm ok hok'=>?_,fun hj1 hi1=>?_⟩
      ·have hk1:cls P ok.op=1:=by
        have:=g2 k hk
        simp only[zYe,hok']at this
        exact Nat.eq_of_beq_eq_true this
       exact(zX6 (ops:=ops) (zYf (List.all_eq_true.1 h5 k (hs k hm)) hok' hj hk1)).1 (hc k hk (by simp[hm]) ok hok')
      ·obtain⟨hm,hd⟩:=hre hj1 hi0 hi1
       exact⟨hd,fun e h hc=>hc j hm (by simp) oj hj⟩
 | .hv j rs t more,rem,bef,top,hw,hi,hr,hh,hna=>by
  simp only[wfT,Bool.and_eq_true]at hw
  obtain⟨h1,h2,h3,h4,h5,h6,h7,h8⟩:=hw
  have hhd:zUO (.hv j rs t more) i=true:=by
   cases top with
   | false=>exact hh rfl
   | true =>
    simp only[Bool.not_true,Bool.false_or]at h1
    have:=List.all_eq_true.1 h1 i hi
    rw[hr]at this
    simpa using this
  by_cases hij:i=j
  ·subst hij
   refine⟨t,rs,fun k hk=>List.all_eq_true.1 h5 k hk,fun k hk=>List.all_eq_true.1 h6 k hk,fun hl=>?_,zQt (fun k hk=>by simp[hk]) h7,fun seen hs e H K h=>?_⟩
   ·rw[hl]at h4;cases h4
   ·simp only[zJs,ho]at h
    exact zFm.mono h.1 (fun _ _ a=>a) fun e1 h1 b=>zJs.less (fun k hk=>by simp[hk]) b
  ·have hm:zUO more i=true:=by
    simp only[zUO,Bool.or_eq_true]at hhd
    rcases hhd with hb | hb
    ·exact absurd (Nat.eq_of_beq_eq_true hb).symm hij
    ·exact hb
   obtain⟨t',rs',g1,g2,g3,g4,g5⟩:=pull hsel ho more rem bef false h8 hi hr (fun _=>hm) hna
   exact⟨t',rs',g1,g2,g3,g4,fun seen hs e H K h=>g5 seen hs e H K h.2⟩
theorem zWW {ro:Option Nat}{m:Nat}{P:Program}{ops:Array Oper}{n:Nat}{Q:Exit->Act->World->Prop}{K:Env->zAd->Prop}{w0:World}{df:List Deferred}(hokall:∀ (i:Nat) (o:Oper),ops[i]? = some o->zUD n o=true)
  (hin:∀ (i:Nat) (o:Oper),ops[i]? = some o->∀ g ∈ o.after,Region.binds .any g=true->g.on<ops.size):∀ (fuel:Nat) (R:List Nat) (t:Tr) (listed:Array Bool) (a:Act) (w:World),
  R.length<=fuel->listed.size=ops.size->(∀ i,listed.getD i false=true->∀ x,zAdv ops x i->listed.getD x false=true)->(∀ i,i ∈ R↔i<ops.size/\listed.getD i true=false)->wfT P ops t R [] true=true->a.tmps.size=n->a.defers=df->zHd w0 w ->
  zJs P ops [] t (zBN a) w.heap K->(∀ a' w',zHd w0 w'->a'.tmps.size=n->a'.defers=df->K (zBN a') w'.heap->Q .normal a' w')->wpAnyIn (Fr ro) m P .any ops Q fuel listed a w:=by
 have hready:∀ (R:List Nat) (t:Tr) (listed:Array Bool),listed.size=ops.size->(∀ i,i ∈ R↔i<ops.size/\listed.getD i true=false)->wfT P ops t R [] true=true->Region.ready .any ops listed=[]->t = .done:=by
  intro R t listed hls hR hw hr
  have key:∀ x,has R x=true->zGE ops R x=true->False:=by
   intro x hx hrx
   have hx:=(hR x).1 (zBx.1 hx)
   have:x ∈ Region.ready .any ops listed:=by
    refine mem_ready.2 ⟨hx.2,ops[x],Array.getElem?_eq_getElem hx.1,fun g hg hb=>?_⟩
    have ho:ops[x]? = some ops[x]:=Array.getElem?_eq_getElem hx.1
    have hlt:=hin x _ ho g hg hb
    cases hl:listed.getD g.on false with
    | true=>rfl
    | false =>
     exfalso
     have hl':listed.getD g.on true=false:=by
      simp only[Array.getD_eq_getD_getElem?]at hl ⊢
      rw[Array.getElem?_eq_getElem (by omega)]at hl ⊢
      simpa using hl
     have hm:g.on ∈ R:=(hR g.on).2 ⟨hlt,hl'⟩
     unfold zGE at hrx
     simp only[ho,List.all_eq_true,Bool.not_eq_true',Bool.and_eq_false_imp]at hrx
     have:=hrx g (Array.mem_toList_iff.2 hg) hb
     rw[zBx.2 hm]at this;cases this
   rw[hr]at this
   simp at this
  cases t with
  | done=>rfl
  | stop=>simp[wfT]at hw
  | lt i t =>
   simp only[wfT,Bool.and_eq_true]at hw
   exact(key i hw.2.1 hw.2.2.1).elim
  | hv i rs t more =>
   simp only[wfT,Bool.and_eq_true]at hw
   exact(key i hw.2.1 hw.2.2.1).elim
 intro fuel
 induction fuel with
 | zero =>
  intro R t listed a w hlen hls hcl hR hw hsz hdf hsm h hq
  have:R=[]:=List.length_eq_zero_iff.1 (by omega)
  subst this
  have hr:Region.ready .any ops listed=[]:=by
   cases hr:Region.ready .any ops listed with
   | nil=>rfl
   | cons x l =>
    exfalso
    have hx:x ∈ Region.ready .any ops listed:=by rw[hr];simp
    obtain⟨h0,o,ho,_⟩:=mem_ready.1 hx
    have:=(hR x).2 ⟨(Array.getElem?_eq_some_iff.1 ho).1,h0⟩
    simp at this
  have:=hready [] t listed hls hR hw hr
  subst this
  exact⟨hr,hq a w hsm hsz hdf h⟩
 | succ fuel ih =>
  intro R t listed a w hlen hls hcl hR hw hsz hdf hsm h hq
  refine⟨fun hr=>?_,fun i hi=>?_⟩
  ·have:=hready R t listed hls hR hw hr
   subst this
   exact hq a w hsm hsz hdf h
  ·obtain⟨h0,o,ho,hall⟩:=mem_ready.1 hi
   have hilt:=(Array.getElem?_eq_some_iff.1 ho).1
   have hiR:i ∈ R:=(hR i).2 ⟨hilt,h0⟩
   have hna:∀ j ∈ R,¬ Anc ops j i:=by
    intro j hj hanc
    have hl:listed.getD j false=true:=zRH hcl (fun x ⟨oy,hoy,g,hg,hb,hgo⟩=>by
     rw[ho]at hoy;cases hoy
     rw[<- hgo];exact hall g hg hb) hanc
    have hjR:=(hR j).1 hj
    simp only[Array.getD_eq_getD_getElem?]at hl
    have:=hjR.2
    simp only[Array.getD_eq_getD_getElem?]at this
    rw[Array.getElem?_eq_getElem (by omega)]at hl this
    simp_all
   have hri:zGE ops R i=true:=by
    unfold zGE
    simp only[ho,List.all_eq_true,Bool.not_eq_true',Bool.and_eq_false_imp]
    intro g hg hb
    have hl:=hall g (Array.mem_toList_iff.1 hg) hb
    cases hm:has R g.on with
    | false=>rfl
    | true =>
     exfalso
     have hgR:=(hR g.on).1 (zBx.1 hm)
     simp only[Array.getD_eq_getD_getElem?]at hl
     have:=hgR.2
     simp only[Array.getD_eq_getD_getElem?]at this
     rw[Array.getElem?_eq_getElem (by omega)]at hl this
     simp_all
   obtain⟨t',rs,_,_,_,g4,g5⟩:=pull (fun x o hx=>zOp (hokall x o hx)) ho t R [] true hw hiR hri (fun h=>by cases h) hna
   have h:=g5 [] (fun k hk=>by cases hk) _ _ _ h
   refine zUJ ho (hokall i o ho) hsz h.step fun a' w' hs hs' hd' hk=>?_
   have hdl:=zAfb hiR
   refine ih (del i R) t' (listed.setIfInBounds i true) a' w' ?_ ?_ ?_ ?_ g4 hs' (hd'.trans hdf) (hsm.trans hs) hk hq
   ·omega
   ·simp[hls]
   ·intro j hj x hx
    by_cases hji:j=i
    ·subst hji
     obtain⟨oy,hoy,g,hg,hb,hgo⟩:=hx
     rw[ho]at hoy;cases hoy
     rw[<- hgo]
     exact getD_set_true (hall g hg hb)
    ·rw[getD_set_ne false (Ne.symm hji)]at hj
     exact getD_set_true (hcl j hj x hx)
   ·intro j
    rw[zO8]
    by_cases hji:j=i
    ·subst hji
     simp only[ne_eq,not_true,and_false,false_iff,not_and]
     intro _
     simp[hls,hilt]
    ·rw[getD_set_ne true (Ne.symm hji),<- hR j]
     simp[hji]
def opG (P:Program)(ops:Array Oper)(o:Oper)(rs:List Oper)(e:Env)(H:zAd)(k:Env->zAd->Prop):Prop:=match o.guard with
 | none=>opX P false o (ev e) H fun v h=>Mre (zSp P (e.put o.dst v) h rs) (k (e.put o.dst v) h)
 | some g=>match (ops[g.1]?).bind (·.dst) with
  | some t=>zIE o.dst.toList.length
    (fun k'=>Mif (e t) g.2 (opX P false o (ev e) H fun v h=>Mre (zSp P (e.put o.dst v) h rs) (Cur.app _ k' (o.dst.toList.map (e.put o.dst v)) h))
     (Cur.app _ k' (o.dst.toList.map fun _=>undef) H))
    (Cur.of _ fun vs h=>k (mg [] o.dst.toList e vs) h)
  | none=>False
def zAgC (ops:Array Oper)(D:List Nat)(o:Oper)(rs:List Oper):Bool:=zAaD D o && rs.all (zAaE (addD o.dst D)) && (match o.guard with
 | none=>true
 | some g=>match (ops[g.1]?).bind (·.dst) with
  | some t=>has D t
  | none=>false)
theorem zRL {D:List Nat}{e e1:Env}{d:Option Nat}{v:Value}(h:zDM D e e1):zDM (addD d D) (mg [] d.toList e (d.toList.map (e.put d v))) (e1.put d v):=by
 intro i hi
 cases d with
 | none=>exact h i hi
 | some d =>
  show zXI [d] [e.put (some d) v d] i (e i)=_
  simp only[zXI]
  cases hb:Nat.beq i d with
  | true =>
   have:=Nat.eq_of_beq_eq_true hb
   subst this
   rw[zLc,zLc];rfl
  | false =>
   have hne:i≠d:=fun e=>by subst e;rw[Nat.beq_refl]at hb;cases hb
   have hd:some d≠some i:=fun h=>hne (Option.some.inj h).symm
   rw[zHf hd]
   exact h i ((List.mem_cons.1 hi).resolve_left hne)
theorem zWX {D:List Nat}{e e1:Env}{d:Option Nat}(h:zDM D e e1):zDM (addD d D) (mg [] d.toList e (d.toList.map fun _=>undef)) (e1.put d undef):=by
 have:=zRL (d:=d) (v:=undef) h
 have e2:(d.toList.map fun _=>undef)=d.toList.map (e.put d undef):=by
  cases d with
  | none=>rfl
  | some d=>show [undef]=[e.put (some d) undef d];rw[zLc]
 rw[e2];exact this
theorem zVQ {P:Program}{ops:Array Oper}{o:Oper}{rs:List Oper}{D:List Nat}{e e1:Env}{H:zAd}{k:Env->zAd->Prop}(hsel:∀ cs b,o.op ≠ .select cs b)(hc:zAgC ops D o rs=true)(ha:zDM D e e1)(h:opG P ops o rs e H k) :
  zFm P ops o e1 H (fun e h=>∀ j ∈ rs,rc P j e h) fun e1' h=>(∃ e',zDM (addD o.dst D) e' e1'/\k e' h)/\∀ i,o.dst≠some i->e1' i=e1 i:=by
 simp only[zAgC,Bool.and_eq_true]at hc
 obtain⟨⟨hok,hre⟩,hg⟩:=hc
 have un:∀ v i,o.dst≠some i->e1.put o.dst v i=e1 i:=fun v i h=>zHf h
 unfold opG at h
 cases hgd:o.guard with
 | none =>
  simp only[hgd]at h
  refine .inl ⟨by simp[act,hgd],?_⟩
  refine zLb hsel (zLd hok ha) (zEA h fun v h' hh=>?_)
  obtain⟨hr,hh⟩:=zQp.1 hh
  exact⟨fun j hj=>zSq (List.all_eq_true.1 hre j hj) ha.put (hr j hj),⟨_,ha.put,hh⟩,un v⟩
 | some g =>
  simp only[hgd]at h hg
  cases ht:(ops[g.1]?).bind (·.dst) with
  | none=>simp[ht]at hg
  | some t =>
   simp only[ht]at h hg
   have hsg:zOr g o=true:=by simp[zOr,hgd]
   have idle:e1 t ≠ .bool g.2->Cur.app o.dst.toList.length (Cur.of o.dst.toList.length fun vs h=>k (mg [] o.dst.toList e vs) h) (o.dst.toList.map fun _=>undef) H ->
     zFm P ops o e1 H (fun e h=>∀ j ∈ rs,rc P j e h) fun e1' h=>(∃ e',zDM (addD o.dst D) e' e1'/\k e' h)/\∀ i,o.dst≠some i->e1' i=e1 i:=fun hne hk=>by
    refine .inr ⟨zTv ht hsg hne,?_⟩
    rw[Cur.app_of (by simp)]at hk
    exact⟨⟨_,zWX ha,hk⟩,un _⟩
   rcases h.out with ⟨b,heb,hyes,hno⟩ | ⟨hnb,hno⟩
   ·have het:e1 t = .bool b:=by rw[<- ha t (zBx.1 hg)];exact heb
    by_cases hb:b=g.2
    ·subst hb
     refine .inl ⟨by rw[zSr ht hsg het];simp,?_⟩
     refine zLb hsel (zLd hok ha) (zEA (hyes rfl) fun v h' hh=>?_)
     obtain⟨hr,hh⟩:=zQp.1 hh
     rw[Cur.app_of (by simp)]at hh
     exact⟨fun j hj=>zSq (List.all_eq_true.1 hre j hj) ha.put (hr j hj),⟨_,zRL ha,hh⟩,un v⟩
    ·have hb':b = !g.2:=by cases b <;> cases hq:g.2 <;> simp_all
     exact idle (by rw[het];intro he;cases he;exact hb rfl) (hno hb')
   ·exact idle (by rw[<- ha t (zBx.1 hg)];exact hnb _) hno
def zAfc:Tr->Prop->Prop->Prop
 | .stop,p,_=>p
 | _,p,q=>p/\q
def zTF (P:Program)(ops:Array Oper):Tr->Env->zAd->(Env->zAd->Prop)->Prop
 | .done,e,H,K=>K e H
 | .stop,_,_,_=>True
 | .lt i t,e,H,K=>match ops[i]? with
  | none=>False
  | some o=>opG P ops o [] e H fun e' h'=>zTF P ops t e' h' K
 | .hv i rs t more,e,H,K=>zAfc more (match ops[i]? with
  | none=>False
  | some o=>opG P ops o (rs.filterMap (ops[·]?)) e H fun e' h'=>zTF P ops t e' h' K) (zTF P ops more e H K)
def zAaJ (ops:Array Oper)(L:List Nat):Tr->List Nat->Bool
 | .done,D=>L.all (has D)
 | .stop,_=>true
 | .lt i t,D=>match ops[i]? with
  | none=>false
  | some o=>zAgC ops D o [] && zAaJ ops L t (addD o.dst D)
 | .hv i rs t more,D=>(match ops[i]? with
  | none=>false
  | some o=>zAgC ops D o (rs.filterMap (ops[·]?)) && zAaJ ops L t (addD o.dst D)) && zAaJ ops L more D
theorem zYh {t:Tr}{p q:Prop}(h:zAfc t p q)(hs:t = .stop->q):p/\q:=by
 cases t <;> first | exact h | exact⟨h,hs rfl⟩
theorem zNa {P:Program}{ops:Array Oper}{L:List Nat}(hsel:∀ (x:Nat) (o:Oper),ops[x]? = some o->∀ cs b,o.op ≠ .select cs b){e0:Env}:∀ (t:Tr) (seen D:List Nat) (e e1:Env) (H:zAd) (K:Env->zAd->Prop),
  zAaJ ops L t D=true->zDM D e e1->(∀ i,i ∉ zF9 ops.toList->e1 i=e0 i)->zTF P ops t e H K->zJs P ops seen t e1 H fun e1' h=>(∃ e',K e' h/\zDM L e' e1')/\∀ i,i ∉ zF9 ops.toList->e1' i=e0 i
 | .done,seen,D,e,e1,H,K,hc,ha,hu,h=>⟨⟨e,h,fun i hi=>ha i (zBx.1 (List.all_eq_true.1 hc i hi))⟩,hu⟩
 | .stop,_,_,_,_,_,_,_,_,_,_=>trivial
 | .lt i t,seen,D,e,e1,H,K,hc,ha,hu,h=>by
  simp only[zAaJ]at hc
  simp only[zTF]at h
  simp only[zJs]
  cases ho:ops[i]? with
  | none=>simp[ho]at h
  | some o =>
   simp only[ho,Bool.and_eq_true]at hc h ⊢
   have hm:o ∈ ops.toList:=Array.mem_toList_iff.2 (Array.mem_of_getElem? ho)
   refine zFm.mono (zVQ (hsel i o ho) hc.1 ha h) (fun _ _ _ k hk=>(by cases hk)) ?_
   rintro e1' h' ⟨⟨e',ha',hk⟩,hun⟩
   exact zNa hsel t _ _ e' e1' h' K hc.2 ha' (fun i hi=>(hun i fun hd=>hi (zJr hd hm)).trans (hu i hi)) hk
 | .hv i rs t more,seen,D,e,e1,H,K,hc,ha,hu,h=>by
  simp only[zAaJ,Bool.and_eq_true]at hc
  simp only[zTF]at h
  simp only[zJs]
  have h:=zYh h (fun e=>by subst e;trivial)
  refine⟨?_,zNa hsel more seen D e e1 H K hc.2 ha hu h.2⟩
  have h:=h.1
  have hc:=hc.1
  cases ho:ops[i]? with
  | none=>simp[ho]at h
  | some o =>
   simp only[ho,Bool.and_eq_true]at hc h ⊢
   have hm:o ∈ ops.toList:=Array.mem_toList_iff.2 (Array.mem_of_getElem? ho)
   refine zFm.mono (zVQ (hsel i o ho) hc.1 ha h) (fun _ _ a k hk _ ok hok=>a ok (List.mem_filterMap.2 ⟨k,hk,hok⟩)) ?_
   rintro e1' h' ⟨⟨e',ha',hk⟩,hun⟩
   exact zNa hsel t _ _ e' e1' h' K hc.2 ha' (fun i hi=>(hun i fun hd=>hi (zJr hd hm)).trans (hu i hi)) hk
def zAeT (P:Program)(ops:Array Oper):Bool:=pwB (zAgB P ops (zAcc P ops)) (zAaG P ops)
def zSt (P:Program)(ops:Array Oper):Tr:=zYd P ops ops.size [] (List.range ops.size)
def zYi (P:Program)(V:List Nat)(ops:Array Oper)(e:Env)(H:zAd)(K:Env->zAd->Prop):Prop :=
 zIE (both V (zF9 ops.toList) V).length (fun k=>zTF P ops (zSt P ops) e H fun e' h=>Cur.app _ k ((both V (zF9 ops.toList) V).map e') h)
  (Cur.of _ fun vs h=>K (mg (zF9 ops.toList) (both V (zF9 ops.toList) V) e vs) h)
def zAaK (P:Program)(V:List Nat)(n:Nat)(ops:Array Oper)(D:List Nat):Option (List Nat) :=
 bif P.follows .mixedOrders && zAaF n ops && wfT P ops (zSt P ops) (List.range ops.size) [] true && zAaJ ops (both V (zF9 ops.toList) V) (zSt P ops) D then some (both V (zF9 ops.toList) V++rm (zF9 ops.toList) D) else none
def zSu (P:Program)(V:List Nat)(ops:Array Oper)(draw:Bool)(e:Env)(H:zAd)(K:Env->zAd->Prop):Prop :=
 bif draw && !zAeT P ops then zYi P V ops e H K else zAcb P V ops (ops.size+1) (zPH P ops draw) e H K
def zMC (P:Program)(V:List Nat)(n:Nat)(ops:Array Oper)(draw:Bool)(D:List Nat):Option (List Nat) :=
 bif draw && !zAeT P ops then zAaK P V n ops D else bif (bif draw then zX9 P n ops (zAaG P ops) else ops.toList.all (zUD n)) then zOs V ops (ops.size+1) (zPH P ops draw) D else none
theorem zYj {ro:Option Nat}{m:Nat}{P:Program}{V:List Nat}{n id:Nat}{ops:Array Oper}{draw:Bool}{D D':List Nat}(hc:zMC P V n ops draw D=some D'){e:Env}{a:Act}{w:World}{K:Env->zAd->Prop}{Q:Exit->Act->World->Prop}
  (ha:zDM D e (zBN a)) (hsz:a.tmps.size=n) (h:zSu P V ops draw e w.heap K)
  (hq:∀ a' w' e',zHd w w'->a'.tmps.size=n->a'.defers=a.defers->zDM D' e' (zBN a')->(∀ i,i ∉ zF9 ops.toList->zBN a' i=zBN a i)->K e' w'.heap->Q .normal a' w'):(Code.region id ops draw).wpIn (Fr ro) m P Q a w:=by
 unfold zMC at hc
 unfold zSu at h
 cases hdl:draw && !zAeT P ops with
 | true =>
  rw[hdl]at hc h
  simp only[cond_true]at hc h
  obtain rfl:draw=true:=by cases draw <;> simp_all
  unfold zAaK at hc
  cases hall:(P.follows .mixedOrders && zAaF n ops && wfT P ops (zSt P ops) (List.range ops.size) [] true && zAaJ ops (both V (zF9 ops.toList) V) (zSt P ops) D) with
  | false=>rw[hall]at hc;cases hc
  | true =>
   rw[hall]at hc
   simp only[cond_true,Option.some.injEq]at hc
   subst hc
   simp only[Bool.and_eq_true]at hall
   obtain⟨⟨⟨hm,hok⟩,hw⟩,hct⟩:=hall
   have hokall:∀ (i:Nat) (o:Oper),ops[i]? = some o->zUD n o=true/\∀ g ∈ o.after,Region.binds .any g=true->g.on≠i/\g.on<ops.size:=by
    intro i o ho
    have hi:=(Array.getElem?_eq_some_iff.1 ho).1
    have:=List.all_eq_true.1 hok i (by simpa using hi)
    simp only[ho,Bool.and_eq_true,List.all_eq_true,Bool.or_eq_true,Bool.not_eq_true']at this
    refine⟨this.1,fun g hg hb=>?_⟩
    rcases this.2 g (Array.mem_toList_iff.2 hg) with h | ⟨h1,h2⟩
    ·rw[hb]at h;cases h
    ·exact⟨fun he=>(by rw[he,Nat.beq_refl]at h1;cases h1),Nat.le_of_ble_eq_true h2⟩
   have hs:=zNa (e0:=zBN a) (fun x o hx=>zOp (hokall x o hx).1) (zSt P ops) [] D e (zBN a) w.heap _ hct ha (fun _ _=>rfl) h.out
   refine wpIn_region_any hm ?_
   refine zWW (n:=n) (w0:=w) (df:=a.defers) (fun i o ho=>(hokall i o ho).1) (fun i o ho g hg hb=>((hokall i o ho).2 g hg hb).2) ops.size (List.range ops.size) (zSt P ops) (Array.replicate ops.size false) a { w with drawn:=w.drawn+1 } (by simp) (by simp) (fun i hi=>by
     exfalso;revert hi;simp only[Array.getD_eq_getD_getElem?,Array.getElem?_replicate];split <;> simp) ?_ hw hsz rfl ⟨rfl,rfl,rfl,zDL.rfl'⟩ hs ?_
   ·intro i
    constructor
    ·intro hi
     have hi:=List.mem_range.1 hi
     exact⟨hi,by simp[hi]⟩
    ·rintro⟨hi,_⟩
     exact List.mem_range.2 hi
   ·rintro a' w' hs hs' hd ⟨⟨e',hk,hag⟩,hun⟩
    rw[Cur.app_of (by simp)]at hk
    refine hq a' w' _ hs hs' hd ?_ hun hk
    exact zOq rfl ha hun (List.map_congr_left fun i hi=>hag i hi)
 | false =>
 rw[hdl]at hc h
 simp only[cond_false]at hc h
 clear hdl
 cases draw with
 | false =>
  simp only[cond_false]at hc
  cases hall:ops.toList.all (zUD n) with
  | false=>rw[hall]at hc;cases hc
  | true =>
   rw[hall]at hc
   have hok:∀ o ∈ ops.toList,zUD n o=true:=List.all_eq_true.1 hall
   have hf:=zQs (zO7 (zOu _ _ _ _ e (zBN a) w.heap K (fun x hx=>zOp (hok _ (zTE (by simpa [zPH] using hx)))) hc ha h))
   rw[show zCM (zH5 ops.toList)=ops.toList from zTD]at hf
   refine wpIn_region ?_
   refine zRG (n:=n) (q:=false) (K:=fun e1' h=>(∃ e',K e' h/\zDM D' e' e1')/\∀ i,i ∉ zF9 ops.toList->e1' i=zBN a i) (w0:=w) (df:=a.defers) (List.range ops.size) ops.toList (by simp) ?_ a w hsz rfl (zHd.rfl' w) hf ?_
   ·intro j i hj
    have hji:j<ops.size/\i=j:=by
     have:=List.getElem?_eq_some_iff.1 hj
     obtain⟨h1,h2⟩:=this
     simp at h1 h2
     exact⟨h1,h2.symm⟩
    obtain⟨hlt,rfl⟩:=hji
    exact⟨ops[i],by simp[hlt],Array.getElem?_eq_getElem hlt,hok _ (by simp)⟩
   ·rintro a' w' hs hs' hd ⟨⟨e',hk,hag⟩,hun⟩
    exact hq a' w' e' hs hs' hd hag hun hk
 | true =>
  simp only[cond_true]at hc
  cases hall:zX9 P n ops (zAaG P ops) with
  | false=>rw[hall]at hc;cases hc
  | true =>
   rw[hall]at hc
   simp only[zX9,Bool.and_eq_true]at hall
   obtain⟨⟨⟨⟨⟨hm,hok⟩,hnd⟩,hlt⟩,hcov⟩,hpw⟩:=hall
   have hokall:∀ (i:Nat) (o:Oper),ops[i]? = some o->zUD n o=true/\∀ g ∈ o.after,Region.binds .any g=true->g.on≠i/\g.on<ops.size:=by
    intro i o ho
    have hi:=(Array.getElem?_eq_some_iff.1 ho).1
    have:=List.all_eq_true.1 hok i (by simpa using hi)
    simp only[ho,Bool.and_eq_true,List.all_eq_true,Bool.or_eq_true,Bool.not_eq_true']at this
    refine⟨this.1,fun g hg hb=>?_⟩
    rcases this.2 g (Array.mem_toList_iff.2 hg) with h | ⟨h1,h2⟩
    ·rw[hb]at h;cases h
    ·exact⟨fun he=>(by rw[he,Nat.beq_refl]at h1;cases h1),Nat.le_of_ble_eq_true h2⟩
   have hltl:∀ i ∈ zAaG P ops,i<ops.size:=fun i hi=>Nat.le_of_ble_eq_true (List.all_eq_true.1 hlt i hi)
   have hfst:(zAcc P ops).map (·.1)=zAaG P ops:=zTB
   have hf:=zO7 (zOu _ _ _ _ e (zBN a) w.heap K (fun x hx=>by
    simp only[zPH,cond_true]at hx
    obtain⟨i,hio⟩:=zP7 hx
    exact zOp (hokall i _ hio).1) hc ha h)
   have hs:=zQr (tab0:=zAcc P ops) (seen:=[]) (fun i r hm=>⟨zTC (by rw[hfst];exact zP6 hnd) hm,hltl i (by rw[<- hfst];exact List.mem_map.2 ⟨_,hm,rfl⟩)⟩) hf
   rw[hfst]at hs
   refine wpIn_region_any hm ?_
   refine zWV (rsl:=lk (zAcc P ops)) (n:=n) (K:=fun e1' h=>(∃ e',K e' h/\zDM D' e' e1')/\∀ i,i ∉ zF9 (zCM (zPH P ops true))->e1' i=zBN a i) (w0:=w) (df:=a.defers) (fun i o ho=>(hokall i o ho).1) (fun i o ho ⟨g,hg,hb,he⟩=>((hokall i o ho).2 g hg hb).1 he)
    (fun i o ho g hg hb=>((hokall i o ho).2 g hg hb).2) ?_ ?_ ops.size (zAaG P ops) (Array.replicate ops.size false) a { w with drawn:=w.drawn+1 } ?_ (by simp) (fun i hi=>by
     exfalso;revert hi;simp only[Array.getD_eq_getD_getElem?,Array.getElem?_replicate];split <;> simp) ?_ ?_ (zP6 hnd) hsz rfl ⟨rfl,rfl,rfl,zDL.rfl'⟩ hs ?_
   ·intro x o hx hcl
    cases hl:lk (zAcc P ops) x with
    | nil=>rfl
    | cons k r =>
     exfalso
     obtain⟨r',hr',hk⟩:=zAcd (tab:=zAcc P ops) (i:=x) (k:=k) (by rw[hl];simp)
     obtain⟨b,rfl⟩:=zQq hr'
     simp only[zX8,hx,zAdu.2 hcl,cond_true]at hk
     simp at hk
   ·intro x k ok hk hok'
    obtain⟨r',hr',hk⟩:=zAcd hk
    obtain⟨b,rfl⟩:=zQq hr'
    unfold zX8 at hk
    split at hk
    ·rename_i o hx
     cases hb:Nat.ble (cls P o.op) 1 with
     | true=>rw[hb]at hk;simp at hk
     | false =>
      rw[hb]at hk
      have:=(List.mem_filter.1 hk).2
      simp only[hok',Bool.and_eq_true]at this
      exact Nat.eq_of_beq_eq_true this.1
    ·simp at hk
   ·have:=List.Nodup.length_le_of_subset (zP6 hnd) (l₂:=List.range ops.size) (fun i hi=>by simpa using hltl i hi)
    simpa using this
   ·intro i
    constructor
    ·intro hi;exact⟨hltl i hi,by simp[hltl i hi]⟩
    ·rintro⟨hi,_⟩
     exact zBx.1 (List.all_eq_true.1 hcov i (by simpa using hi))
   ·exact(zVO hpw).imp fun {x y} hxy=>zYc hxy
   ·rintro a' w' hs hs' hd ⟨⟨e',hk,hag⟩,hun⟩
    refine hq a' w' e' hs hs' hd hag (fun i hi=>hun i fun hm=>hi (zAaH (fun o ho=>?_) hm)) hk
    obtain⟨x,hx,rfl⟩:=zRJ ho
    simp only[zPH,cond_true]at hx
    obtain⟨j,hjo⟩:=zP7 hx
    exact Array.mem_toList_iff.2 (Array.mem_of_getElem? hjo)
def zAgT (ops:Array Oper):List Nat:=zF9 ops.toList
def asg:Code->List Nat
 | .region _ ops _=>zAgT ops
 | .seq a b=>asg a++asg b
 | .cond _ a b=>asg a++asg b
 | .block _ a=>asg a
 | .loop a=>asg a
 | .scope a=>asg a
 | _=>[]
def zLC (id:Nat):Code->Nat
 | .exit j=>bif Nat.beq j id then 1 else 0
 | .seq a b=>zLC id a+zLC id b
 | .cond _ a b=>zLC id a+zLC id b
 | .block _ a=>zLC id a
 | .loop a=>zLC id a
 | .scope a=>zLC id a
 | .rangeFunc _ _ _ a=>zLC id a
 | _=>0
def zNX:Code->Bool
 | .seq a b=>zNX a || zNX b
 | .cond _ a b=>zNX a || zNX b
 | .block _ a=>zNX a
 | .loop _=>true
 | .scope a=>zNX a
 | _=>false
def ways:Code->Nat
 | .skip=>1
 | .label _=>1
 | .region _ _ _=>1
 | .seq a b=>bif Nat.beq (ways a) 0 then 0 else ways b
 | .cond _ a b=>ways a+ways b
 | .block id a=>ways a+zLC id a
 | .scope a=>ways a
 | .rangeFunc _ _ _ _=>1
 | _=>0
def zRs:Code->Bool
 | .seq a b=>zRs a || zRs b
 | .cond _ a b=>zRs a || zRs b
 | .block _ a=>zRs a
 | .loop a=>zRs a
 | .scope a=>zRs a
 | .rangeFunc _ _ _ _=>true
 | _=>false
def zKu:Code->Bool
 | .seq a b=>zKu a || zKu b
 | .cond _ a b=>zKu a || zKu b
 | .block _ a=>zKu a
 | .loop a=>zKu a
 | .scope a=>zKu a
 | .rangeFunc _ _ _ a=>zKu a
 | .ret=>true
 | _=>false
def zWY (a:Code):Bool:=Nat.ble 2 (ways a) || zNX a
def zAaL:List (List Nat)->List Nat->List Nat
 | [],D=>D
 | d :: l,D=>zAaL l (D.filter (has d))
def exD (id:Nat):List (Nat×List Nat)->List (List Nat)
 | []=>[]
 | (j,d) :: l=>bif Nat.beq j id then d :: exD id l else exD id l
def zAeU (id:Nat):List (Nat×List Nat)->List (Nat×List Nat)
 | []=>[]
 | (j,d) :: l=>bif Nat.beq j id then zAeU id l else (j,d) :: zAeU id l
def zQu:List (List Nat)->Option (List Nat)
 | []=>none
 | d :: l=>some (zAaL l d)
def zYk (L D:List Nat):Bool:=L.all (has D)
structure Inf where
 nrm:Option (List Nat)
 exs:List (Nat×List Nat)
def chk (P:Program)(V R:List Nat)(n:Nat):Code->List Nat->Option Inf
 | .rangeFunc g ps as b,D=>bif zUL D g && ps.toList.all (fun p=>Nat.ble (p+1) n) && (!zKu b || zYk R D) then (match chk P V R n as (ps.toList++D) with
  | some ⟨some Da,_⟩=>(match chk P V R n b Da with
   | some ⟨_,E⟩=>some ⟨some D,E.map fun p=>(p.1,D)⟩
   | none=>none)
  | _=>none) else none
 | .skip,D=>some ⟨some D,[]⟩
 | .label _,D=>some ⟨some D,[]⟩
 | .scope a,D=>chk P V R n a D
 | .region _ ops draw,D=>(zMC P V n ops draw D).map fun D'=>⟨some D',[]⟩
 | .seq a b,D=>match chk P V R n a D with
  | some ⟨some Da,E⟩=>match chk P V R n b (bif zWY a then both V (asg a) Da++rm (asg a) D else Da) with
   | some ⟨nb,E2⟩=>some ⟨nb,E++E2⟩
   | none=>none
  | some ⟨none,E⟩=>some ⟨none,E⟩
  | none=>none
 | .cond c a b,D=>bif zUL D c then (match chk P V R n a D,chk P V R n b D with
  | some ⟨na,Ea⟩,some ⟨nb,Eb⟩=>some ⟨zQu (na.toList++nb.toList),Ea++Eb⟩
  | _,_=>none) else none
 | .block id a,D=>match chk P V R n a D with
  | some ⟨na,E⟩=>some ⟨zQu (na.toList++exD id E),zAeU id E⟩
  | none=>none
 | .loop a,D=>match chk P V R n a (both V (asg a) D++rm (asg a) D) with
  | some ⟨na,E⟩=>bif (match na with | some d=>zYk (both V (asg a) D) d | none=>true) then some ⟨none,E⟩ else none
  | none=>none
 | .exit id,D=>some ⟨none,[(id,D)]⟩
 | .ret,D=>bif zYk R D then some ⟨none,[]⟩ else none
 | _,_=>some ⟨none,[]⟩
def zO9 (P:Program)(V R:List Nat)(n:Nat)(a:Code)(D:List Nat):List Nat:=match chk P V R n a D with
 | some ⟨some d,_⟩=>d
 | _=>[]
def zTG (K:Env->zAd->Prop)(Q:Exit->Env->zAd->Prop):Exit->Env->zAd->Prop
 | .normal,e,h=>K e h
 | .exit id,e,h=>Q (.exit id) e h
 | .goto l,e,h=>Q (.goto l) e h
 | .ret,e,h=>Q .ret e h
 | .panic c,e,h=>Q (.panic c) e h
 | .outgrown,e,h=>Q .outgrown e h
def zVR (id:Nat)(Q:Exit->Env->zAd->Prop):Exit->Env->zAd->Prop
 | .normal,e,h=>Q .normal e h
 | .exit j,e,h=>bif Nat.beq j id then Q .normal e h else Q (.exit j) e h
 | .goto l,e,h=>Q (.goto l) e h
 | .ret,e,h=>Q .ret e h
 | .panic c,e,h=>Q (.panic c) e h
 | .outgrown,e,h=>Q .outgrown e h
def zAce (k:Option Code->zAd->Prop):Exit->Env->zAd->Prop
 | .normal,_,h=>k none h
 | .ret,_,h=>k (some .ret) h
 | .exit id,_,h=>k (some (.exit id)) h
 | _,_,_=>False
def zUP (b:Bool)(Q:Exit->Env->zAd->Prop)(e:Env):List Nat->Option Code->zAd->Prop
 | [],j,h=>(j=none/\Q .normal e h)\/(bif b then j=some .ret/\Q .ret e h else False)
 | id :: l,j,h=>(j=some (.exit id)/\Q (.exit id) e h)\/zUP b Q e l j h
def zUQ:List Nat->Nat->List Value->Env->Env
 | [],_,_,e=>e
 | p :: ps,i,args,e=>zUQ ps (i+1) args (e.put (some p) (args.getD i undef))
def zYl (P:Program)(fv:Value)(args:List Value)(H:zAd)(k:Value->zAd->Prop):Prop :=
 ∃ f fi ca,fv = .func (.func f) fi ca/\zMv P f=true/\zAg P f (fi.toList++args++ca.toList) H k
def zAeV (l:Nat)(h:zAd)(k:zAd->Prop):Prop:=∃ r:Loop,h[l]? = some (.loop r)/\r.state = .ready/\k (h.setIfInBounds l (.loop { r with state := .busy }))
def zAhO (K:Env->zAd->Prop):Exit->Env->zAd->Prop
 | .normal,e,h=>K e h
 | _,_,_=>False
def zPJ (P:Program)(n0:Nat)(fv:Value)(H:zAd)(B:List Value->zAd->(Option Code->zAd->Prop)->Prop)(rest:Option Code->zAd->Prop):Prop :=
 n0<=H.size/\∀ rec:Loop,rec.state = .ready->rec.pending=none ->
  (∀ args h k,h[H.size+1]? = some (.loop rec) ->
   B args h (fun j h'=>∃ r',h'[H.size+1]? = some (.loop r')/\k (.bool j.isNone) (h'.setIfInBounds (H.size+1) (.loop { r' with state:=if j.isNone then .ready else .done,pending:=j }))) ->
   zQi P (H.size+1) args h k) ->
  zYl P fv [.func (.yield (H.size+1)) #[] #[]] ((H.push (.deferred (some []))).push (.loop rec)) fun _ h =>
   ∃ r',h[H.size+1]? = some (.loop r')/\r'.state ≠ .busy/\rest r'.pending (h.setIfInBounds (H.size+1) (.loop { r' with state := .exhausted }))
def zYm (i:Option Inf):List Nat:=match i with
 | some ⟨_,E⟩=>uni (E.map (·.1)) []
 | none=>[]
def den (P:Program)(V R:List Nat)(n n0:Nat):Bool->Code->List Nat->Env->zAd->(Exit->Env->zAd->Prop)->Prop
 | M,.rangeFunc g ps as b,D,e,H,Q=>bif M then
   zPJ P n0 (ev e g) H (fun args h k=>args.length=ps.size/\den P V R n n0 false as (ps.toList++D) (zUQ ps.toList 0 args e) h
     (zAhO fun e' h'=>zAeV (H.size+1) h' fun h''=>den P V R n n0 false b (zO9 P V R n as (ps.toList++D)) e' h'' (zAce k)))
    (zUP (zKu b) Q e (zYm (chk P V R n b (zO9 P V R n as (ps.toList++D)))))
  else False
 | _,.skip,_,e,H,Q=>Q .normal e H
 | _,.label _,_,e,H,Q=>Q .normal e H
 | M,.scope a,D,e,H,Q=>den P V R n n0 M a D e H Q
 | _,.region _ ops draw,_,e,H,Q=>zSu P V ops draw e H fun e h=>Q .normal e h
 | M,.seq a b,D,e,H,Q=>bif zWY a then
   zIE (both V (asg a) (zO9 P V R n a D)).length
    (fun k=>den P V R n n0 M a D e H (zTG (fun e' h'=>Cur.app _ k ((both V (asg a) (zO9 P V R n a D)).map e') h') Q))
    (Cur.of _ fun vs h'=>den P V R n n0 M b (both V (asg a) (zO9 P V R n a D)++rm (asg a) D) (mg (asg a) (both V (asg a) (zO9 P V R n a D)) e vs) h' Q)
  else den P V R n n0 M a D e H (zTG (fun e' h'=>den P V R n n0 M b (zO9 P V R n a D) e' h' Q) Q)
 | M,.cond c a b,D,e,H,Q=>Mcd (ev e c) (den P V R n n0 M a D e H Q) (den P V R n n0 M b D e H Q)
 | M,.block id a,D,e,H,Q=>den P V R n n0 M a D e H (zVR id Q)
 | M,.loop a,D,e,H,Q=>zSo (both V (asg a) D).length
   (fun next=>Cur.of _ fun vs h'=>den P V R n n0 M a (both V (asg a) D++rm (asg a) D) (mg (asg a) (both V (asg a) D) e vs) h'
    (zTG (fun e'' h''=>Cur.app _ next ((both V (asg a) D).map e'') h'') Q)) ((both V (asg a) D).map e) H
 | _,.exit id,_,e,H,Q=>Q (.exit id) e H
 | _,.ret,_,e,H,Q=>Q .ret e H
 | _,_,_,_,_,_=>False
def Out (R:List Nat)(I:Inf)(A:List Nat)(a0 a:Act)(e:Env):Exit->Prop
 | .normal=>(∃ d,I.nrm=some d/\zDM d e (zBN a))/\∀ i,i ∉ A->zBN a i=zBN a0 i
 | .exit id=>(∃ d,(id,d) ∈ I.exs/\zDM d e (zBN a))/\∀ i,i ∉ A->zBN a i=zBN a0 i
 | .ret=>zDM R e (zBN a)
 | _=>False
def Mks (M:Bool)(n0:Nat)(df:List Deferred)(H:zAd):Prop :=
 (M=false->df=[])/\df.Pairwise (fun x y=>x.target≠y.target)/\∀ d ∈ df,∃ r,d.target = .collected r/\n0<=r/\H[r]? = some (.deferred (some []))
theorem Mks.solid {M:Bool}{n0:Nat}{df:List Deferred}{H H':zAd}(h:Mks M n0 df H)(s:zDL H H'):Mks M n0 df H' :=
 ⟨h.1,h.2.1,fun d hd=>let ⟨r,h1,h2,h3⟩:=h.2.2 d hd; ⟨r,h1,h2,s _ _ h3⟩⟩
theorem Mks.nil {M:Bool}{n0:Nat}{H:zAd}:Mks M n0 [] H:=⟨fun _=>rfl,.nil,fun d hd=>(by cases hd)⟩
def zAgU (M:Bool)(n0 n:Nat)(R:List Nat)(I:Inf)(A:List Nat)(a0:Act)(w0:World)(Q:Exit->Env->zAd->Prop):Exit->Act->World->Prop:=fun ex a w =>
 ∃ e,Q ex e w.heap/\zHd w0 w/\a.tmps.size=n/\Mks M n0 a.defers w.heap/\Out R I A a0 a e ex
theorem zJM:∀ {l:List (List Nat)} {D d:List Nat} {e e1:Env},d ∈ l\/d=D->zDM d e e1->zDM (zAaL l D) e e1
 | [],D,d,e,e1,h,ha=>by
  rcases h with h | rfl
  ·simp at h
  ·exact ha
 | x :: l,D,d,e,e1,h,ha=>by
  simp only[zAaL]
  rcases h with h | rfl
  ·rcases List.mem_cons.1 h with rfl | h
   ·refine zJM (.inr rfl) fun i hi=>ha i ?_
    exact zBx.1 (List.mem_filter.1 hi).2
   ·exact zJM (.inl h) ha
  ·exact zJM (.inr rfl) fun i hi=>ha i (List.mem_filter.1 hi).1
theorem zNb {l:List (List Nat)}{d:List Nat}{e e1:Env}(h:d ∈ l)(ha:zDM d e e1):∃ m,zQu l=some m/\zDM m e e1:=by
 cases l with
 | nil=>simp at h
 | cons x l =>
  refine⟨_,rfl,?_⟩
  rcases List.mem_cons.1 h with rfl | h
  ·exact zJM (.inr rfl) ha
  ·exact zJM (.inl h) ha
theorem zYn {id:Nat}{d:List Nat}:∀ {E:List (Nat×List Nat)},(id,d) ∈ E->d ∈ exD id E
 | (j,d') :: l,h=>by
  simp only[exD]
  rcases List.mem_cons.1 h with h | h
  ·cases h;rw[Nat.beq_refl];simp
  ·have:=zYn h
   cases Nat.beq j id
   ·exact this
   ·exact List.mem_cons_of_mem _ this
theorem zVS {id j:Nat}{d:List Nat}(hne:Nat.beq j id=false):∀ {E:List (Nat×List Nat)},(j,d) ∈ E->(j,d) ∈ zAeU id E
 | (j',d') :: l,h=>by
  simp only[zAeU]
  rcases List.mem_cons.1 h with h | h
  ·cases h;rw[hne];simp
  ·have:=zVS hne h
   cases Nat.beq j' id
   ·exact List.mem_cons_of_mem _ this
   ·exact this
theorem zNc {M:Bool}{n0 n:Nat}{R:List Nat}{Ia I:Inf}{A B:List Nat}{a0:Act}{w0:World}{K:Env->zAd->Prop}{Q:Exit->Env->zAd->Prop}{next:Act->World->Prop}
  (hnext:∀ a w e,K e w.heap->zHd w0 w->a.tmps.size=n->Mks M n0 a.defers w.heap->Out R Ia A a0 a e .normal->next a w) (hsub:∀ i,i ∉ B->i ∉ A) (hex:∀ p,p ∈ Ia.exs->p ∈ I.exs) :
  ∀ ex a w,zAgU M n0 n R Ia A a0 w0 (zTG K Q) ex a w->Exit.then next (zAgU M n0 n R I B a0 w0 Q) ex a w:=by
 rintro ex a w ⟨e,hq,hs,hz,hd,ho⟩
 cases ex with
 | normal=>exact hnext a w e hq hs hz hd ho
 | exit id=>exact⟨e,hq,hs,hz,hd,⟨ho.1.imp fun d h=>⟨hex _ h.1,h.2⟩,fun i hi=>ho.2 i (hsub i hi)⟩⟩
 | ret=>exact⟨e,hq,hs,hz,hd,ho⟩
 | goto l=>exact ho.elim
 | panic c=>exact ho.elim
 | outgrown=>exact ho.elim
theorem zDL.setL {H:zAd}{b:Nat}{r r':Loop}(hb:H[b]? = some (.loop r)):zDL H (H.setIfInBounds b (.loop r')):=fun i ds h=>by
 rw[Array.getElem?_setIfInBounds]
 split
 ·rename_i e;subst e;rw[hb]at h;cases h
 ·exact h
theorem zYo {nr:Option (List Nat)}{E:List (Nat×List Nat)}{id:Nat}(h:id ∈ zYm (some ⟨nr,E⟩)):∃ d,(id,d) ∈ E:=by
 simp only[zYm]at h
 rcases zYa h with h | h
 ·obtain⟨⟨i,d⟩,hm,rfl⟩:=List.mem_map.1 h;exact⟨d,hm⟩
 ·cases h
theorem zTH {b:Bool}{Q:Exit->Env->zAd->Prop}{e:Env}{j:Option Code}{h:zAd}:∀ {l:List Nat},zUP b Q e l j h ->
  (j=none/\Q .normal e h)\/(j=some .ret/\b=true/\Q .ret e h)\/∃ id,j=some (.exit id)/\id ∈ l/\Q (.exit id) e h
 | [],hq=>by
  simp only[zUP]at hq
  rcases hq with hq | hq
  ·exact .inl hq
  ·cases b with
   | false=>exact hq.elim
   | true=>exact .inr (.inl ⟨hq.1,rfl,hq.2⟩)
 | id :: l,hq=>by
  simp only[zUP]at hq
  rcases hq with ⟨h1,h2⟩ | hq
  ·exact .inr (.inr ⟨id,h1,by simp,h2⟩)
  ·rcases zTH hq with h | h | ⟨i,h1,h2,h3⟩
   ·exact .inl h
   ·exact .inr (.inl h)
   ·exact .inr (.inr ⟨i,h1,by simp[h2],h3⟩)
theorem zRM:∀ {l:List (Nat×Value)} {t:Array Value},(l.foldl (fun t (p,v)=>t.setIfInBounds p v) t).size=t.size
 | [],t=>rfl
 | (p,v) :: l,t=>by rw[List.foldl_cons,zRM (l:=l)];simp
theorem zUR {ps:Array Nat}{args:Array Value}{t:Array Value}:((ps.zip args).foldl (fun t (p,v)=>t.setIfInBounds p v) t).size=t.size:=by
 rw[<- Array.foldl_toList];exact zRM
theorem zMD {n:Nat}:∀ {ps:List Nat} {i:Nat} {args:List Value} {t:Array Value} {D:List Nat} {e:Env},t.size=n->(∀ p ∈ ps,p<n)->i+ps.length=args.length ->
  zDM D e (fun i=>t.getD i undef)->zDM (ps++D) (zUQ ps i args e) (fun k=>((ps.zip (args.drop i)).foldl (fun t (p,v)=>t.setIfInBounds p v) t).getD k undef)
 | [],i,args,t,D,e,_,_,_,ha=>by simpa [zUQ] using ha
 | p :: ps,i,args,t,D,e,ht,hp,hl,ha=>by
  have hlt:i<args.length:=by simp at hl;omega
  rw[List.drop_eq_getElem_cons hlt,List.zip_cons_cons,List.foldl_cons]
  have hpn:=hp p (by simp)
  have:=zMD (n:=n) (ps:=ps) (i:=i+1) (args:=args) (t:=t.setIfInBounds p args[i]) (D:=p :: D) (e:=e.put (some p) (args.getD i undef)) (by simpa using ht) (fun q hq=>hp q (by simp[hq])) (by simp at hl;omega) ?_
  ·intro k hk
   refine this k ?_
   simp only[List.cons_append,List.mem_cons,List.mem_append]at hk ⊢
   rcases hk with h | h | h <;> simp[h]
  ·intro k hk
   by_cases hkp:k=p
   ·subst hkp
    rw[zLc]
    simp[ht,hpn,hlt]
   ·rw[zHf (by simpa using fun h=>hkp h.symm)]
    rcases List.mem_cons.1 hk with h | h
    ·exact absurd h hkp
    ·rw[ha k h]
     simp[Array.getElem?_setIfInBounds_ne (Ne.symm hkp)]
theorem zUS {n:Nat}{ps:Array Nat}{args:List Value}{a:Act}{D:List Nat}{e:Env}(hz:a.tmps.size=n)(hp:ps.toList.all (fun p=>Nat.ble (p+1) n)=true)(hl:args.length=ps.size)(ha:zDM D e (zBN a)) :
  zDM (ps.toList++D) (zUQ ps.toList 0 args e) (zBN { tmps:=(ps.zip args.toArray).foldl (fun t (p,v)=>t.setIfInBounds p v) a.tmps,defers:=[] }):=by
 have:=zMD (n:=n) (ps:=ps.toList) (i:=0) (args:=args) (t:=a.tmps) (D:=D) (e:=e) hz (fun p hm=>Nat.le_of_ble_eq_true (List.all_eq_true.1 hp p hm)) (by simpa using hl.symm) ha
 rw[List.drop_zero]at this
 unfold zBN
 rw[<- Array.foldl_toList]
 simpa using this
section
variable {F:Fence} {n:Nat} {P:Program} {Q:Exit->Act->World->Prop} {a:Act} {w:World} {b:Frame} {k:List Go.Item} {cs:List Frame}
theorem zH7 {c:Code}:step P (lone (b.atR a (.code (.scope c) :: k)) cs w) = .next (lone (b.atR a (.code c :: .inScope c :: k)) cs w) :=
 step_lone_go (by simp[stepG,stepG.exec,Frame.atR])
theorem zSv {c:Code}:step P (lone (b.atR a (.inScope c :: k)) cs w) = .next (lone (b.atR a k) cs w) :=
 step_lone_go (by simp[stepG,stepG.exec,Frame.atR])
theorem zWZ {c:Code}(h:c.wpIn F n P Q a w)(hg:∀ l a w,¬ Q (.goto l) a w):(Code.scope c).wpIn F n P Q a w:=by
 intro b k cs hro hb hr
 have h0:(lone (b.atR a (.code (.scope c) :: k)) cs w).fenced P F:=fenced_calm hb hr rfl
 obtain⟨e,a₁,w₁,hq,harr⟩:=h b (.inScope c :: k) cs hro hb hr
 cases e with
 | normal=>exact⟨.normal,a₁,w₁,hq,.head h0 zH7 (StepsIn.trans harr (.one (fenced_calm hb hr rfl) zSv))⟩
 | exit id =>
  have hx:exitTo id (.inScope c :: k)=exitTo id k:=by simp[exitTo]
  exact⟨_,a₁,w₁,hq,fun k' hk => .head h0 zH7 (harr.1 k' (by rw[hx];exact hk)),
   fun hr' hk=>let ⟨k₁,h1,h2⟩:=harr.2 hr' (by rw[hx];exact hk); ⟨k₁,h1,.head h0 zH7 h2⟩⟩
 | goto l=>exact absurd hq (hg _ _ _)
 | ret=>exact⟨_,a₁,w₁,hq,.of_steps (.one h0 zH7) harr⟩
 | panic ch=>exact⟨_,a₁,w₁,hq,.of_steps (.one h0 zH7) harr⟩
 | outgrown=>exact⟨_,a₁,w₁,hq,.of_steps (.one h0 zH7) harr⟩
end
theorem zJN {m:Nat}{P:Program}{V R:List Nat}{n n0:Nat}:∀ {ro:Option Nat} {M:Bool} (hM:M=true->ro=none) (c:Code) (D:List Nat) (I:Inf) (e:Env) (a:Act) (w:World) (Q:Exit->Env->zAd->Prop),chk P V R n c D=some I->zDM D e (zBN a)->a.tmps.size=n->Mks M n0 a.defers w.heap ->
  den P V R n n0 M c D e w.heap Q->c.wpIn (Fr ro) m P (zAgU M n0 n R I (asg c) a w Q) a w
 | _,_,hM,.skip,D,I,e,a,w,Q,hc,ha,hz,hd,h=>by
  simp only[chk,Option.some.injEq]at hc
  subst hc
  exact wpIn_skip ⟨e,h,zHd.rfl' w,hz,hd,⟨D,rfl,ha⟩,fun _ _=>rfl⟩
 | _,_,hM,.region id ops draw,D,I,e,a,w,Q,hc,ha,hz,hd,h=>by
  simp only[chk]at hc
  cases hr:zMC P V n ops draw D with
  | none=>simp[hr]at hc
  | some D' =>
   simp only[hr,Option.map_some,Option.some.injEq]at hc
   subst hc
   exact zYj hr ha hz h fun a' w' e' hs hz' hd' hag hun hk=>⟨e',hk,hs,hz',hd' ▸ hd.solid hs.solid,⟨D',rfl,hag⟩,hun⟩
 | _,_,hM,.seq x y,D,I,e,a,w,Q,hc,ha,hz,hd,h=>by
  simp only[chk]at hc
  cases hx:chk P V R n x D with
  | none=>simp[hx]at hc
  | some Ix =>
   obtain⟨nx,Ex⟩:=Ix
   simp only[hx]at hc
   simp only[den]at h
   cases nx with
   | none =>
    simp only[Option.some.injEq]at hc
    subst hc
    refine wpIn_seq ?_
    cases hj:zWY x with
    | true =>
     rw[hj]at h
     refine wpIn_mono (zJN hM x D _ e a w _ hx ha hz hd (zIE.out h)) (zNc (fun a' w' e' _ _ _ _ ho=>?_) (fun i hi hm=>hi (by simp[asg,hm])) (fun p hp=>hp))
     obtain⟨⟨d,hd',_⟩,_⟩:=ho
     cases hd'
    | false =>
     rw[hj]at h
     refine wpIn_mono (zJN hM x D _ e a w _ hx ha hz hd h) (zNc (fun a' w' e' _ _ _ _ ho=>?_) (fun i hi hm=>hi (by simp[asg,hm])) (fun p hp=>hp))
     obtain⟨⟨d,hd',_⟩,_⟩:=ho
     cases hd'
   | some Da =>
    have hn:zO9 P V R n x D=Da:=by simp[zO9,hx]
    rw[hn]at h
    cases hj:zWY x with
    | true =>
     rw[hj]at h hc
     simp only[cond_true]at h hc
     cases hy:chk P V R n y (both V (asg x) Da++rm (asg x) D) with
     | none=>simp[hy]at hc
     | some Iy =>
      obtain⟨ny,Ey⟩:=Iy
      simp only[hy,Option.some.injEq]at hc
      subst hc
      refine wpIn_seq (wpIn_mono (zJN hM x D _ e a w _ hx ha hz hd h.out) (zNc (fun a' w' e' hk hs hz' hd' ho=>?_) (fun i hi hm=>hi (by simp[asg,hm])) (fun p hp=>by simp[hp])))
      obtain⟨⟨d,hde,hag⟩,hun⟩:=ho
      cases hde
      rw[Cur.app_of (by simp)]at hk
      have hag2:zDM (both V (asg x) Da++rm (asg x) D) (mg (asg x) (both V (asg x) Da) e ((both V (asg x) Da).map e')) (zBN a'):=by
       refine zOq rfl ha hun (List.map_congr_left fun i hi=>?_)
       have:=(List.mem_filter.1 hi).2
       simp only[Bool.and_eq_true]at this
       exact hag i (zBx.1 this.2)
      refine wpIn_mono (zJN hM y _ _ _ a' w' Q hy hag2 hz' hd' hk) ?_
      rintro ex a2 w2 ⟨e2,hq,hs2,hz2,hd2,ho2⟩
      refine⟨e2,hq,hs.trans hs2,hz2,hd2,?_⟩
      cases ex with
      | normal=>exact⟨ho2.1,fun i hi=>(ho2.2 i (fun hm=>hi (by simp[asg,hm]))).trans (hun i (fun hm=>hi (by simp[asg,hm])))⟩
      | exit id=>exact⟨ho2.1.imp fun d h=>⟨by simp[h.1],h.2⟩,fun i hi=>(ho2.2 i (fun hm=>hi (by simp[asg,hm]))).trans (hun i (fun hm=>hi (by simp[asg,hm])))⟩
      | ret=>exact ho2
      | goto l=>exact ho2.elim
      | panic c=>exact ho2.elim
      | outgrown=>exact ho2.elim
    | false =>
     rw[hj]at h hc
     simp only[cond_false]at h hc
     cases hy:chk P V R n y Da with
     | none=>simp[hy]at hc
     | some Iy =>
      obtain⟨ny,Ey⟩:=Iy
      simp only[hy,Option.some.injEq]at hc
      subst hc
      refine wpIn_seq (wpIn_mono (zJN hM x D _ e a w _ hx ha hz hd h) (zNc (fun a' w' e' hk hs hz' hd' ho=>?_) (fun i hi hm=>hi (by simp[asg,hm])) (fun p hp=>by simp[hp])))
      obtain⟨⟨d,hde,hag⟩,hun⟩:=ho
      cases hde
      refine wpIn_mono (zJN hM y _ _ _ a' w' Q hy hag hz' hd' hk) ?_
      rintro ex a2 w2 ⟨e2,hq,hs2,hz2,hd2,ho2⟩
      refine⟨e2,hq,hs.trans hs2,hz2,hd2,?_⟩
      cases ex with
      | normal=>exact⟨ho2.1,fun i hi=>(ho2.2 i (fun hm=>hi (by simp[asg,hm]))).trans (hun i (fun hm=>hi (by simp[asg,hm])))⟩
      | exit id=>exact⟨ho2.1.imp fun d h=>⟨by simp[h.1],h.2⟩,fun i hi=>(ho2.2 i (fun hm=>hi (by simp[asg,hm]))).trans (hun i (fun hm=>hi (by simp[asg,hm])))⟩
      | ret=>exact ho2
      | goto l=>exact ho2.elim
      | panic c=>exact ho2.elim
      | outgrown=>exact ho2.elim
 | _,_,hM,.cond c x y,D,I,e,a,w,Q,hc,ha,hz,hd,h=>by
  simp only[chk]at hc
  cases ho:zUL D c with
  | false=>rw[ho]at hc;cases hc
  | true =>
   rw[ho]at hc
   simp only[cond_true]at hc
   cases hx:chk P V R n x D with
   | none=>simp[hx]at hc
   | some Ix =>
    cases hy:chk P V R n y D with
    | none=>simp[hx,hy]at hc
    | some Iy =>
     obtain⟨nx,Ex⟩:=Ix
     obtain⟨ny,Ey⟩:=Iy
     simp only[hx,hy,Option.some.injEq]at hc
     subst hc
     obtain⟨b,hb,h1,h2⟩:=h
     have hev:a.eval c = .bool b:=by
      rw[zJG,<- hb]
      cases c <;> first | rfl | exact(ha _ (zBx.1 ho)).symm
     cases b with
     | true =>
      refine wpIn_cond_true hev (wpIn_mono (zJN hM x D _ e a w Q hx ha hz hd (h1 rfl)) ?_)
      rintro ex a2 w2 ⟨e2,hq,hs2,hz2,hd2,ho2⟩
      refine⟨e2,hq,hs2,hz2,hd2,?_⟩
      cases ex with
      | normal =>
       obtain⟨⟨d,hd,hag⟩,hun⟩:=ho2
       exact⟨zNb (by simp at hd;simp[hd]) hag,fun i hi=>hun i (fun hm=>hi (by simp[asg,hm]))⟩
      | exit id=>exact⟨ho2.1.imp fun d h=>⟨by simp[h.1],h.2⟩,fun i hi=>ho2.2 i (fun hm=>hi (by simp[asg,hm]))⟩
      | ret=>exact ho2
      | goto l=>exact ho2.elim
      | panic c=>exact ho2.elim
      | outgrown=>exact ho2.elim
     | false =>
      refine wpIn_cond_false hev (wpIn_mono (zJN hM y D _ e a w Q hy ha hz hd (h2 rfl)) ?_)
      rintro ex a2 w2 ⟨e2,hq,hs2,hz2,hd2,ho2⟩
      refine⟨e2,hq,hs2,hz2,hd2,?_⟩
      cases ex with
      | normal =>
       obtain⟨⟨d,hd,hag⟩,hun⟩:=ho2
       exact⟨zNb (by simp at hd;simp[hd]) hag,fun i hi=>hun i (fun hm=>hi (by simp[asg,hm]))⟩
      | exit id=>exact⟨ho2.1.imp fun d h=>⟨by simp[h.1],h.2⟩,fun i hi=>ho2.2 i (fun hm=>hi (by simp[asg,hm]))⟩
      | ret=>exact ho2
      | goto l=>exact ho2.elim
      | panic c=>exact ho2.elim
      | outgrown=>exact ho2.elim
 | _,_,hM,.block id x,D,I,e,a,w,Q,hc,ha,hz,hd,h=>by
  simp only[chk]at hc
  cases hx:chk P V R n x D with
  | none=>simp[hx]at hc
  | some Ix =>
   obtain⟨nx,Ex⟩:=Ix
   simp only[hx,Option.some.injEq]at hc
   subst hc
   refine wpIn_block (wpIn_mono (zJN hM x D _ e a w _ hx ha hz hd h) ?_)
   rintro ex a2 w2 ⟨e2,hq,hs2,hz2,hd2,ho2⟩
   cases ex with
   | normal =>
    obtain⟨⟨d,hd,hag⟩,hun⟩:=ho2
    exact⟨e2,hq,hs2,hz2,hd2,zNb (by simp at hd;simp[hd]) hag,hun⟩
   | exit j =>
    obtain⟨⟨d,hdm,hag⟩,hun⟩:=ho2
    simp only[Exit.inBlock]
    cases hb:Nat.beq j id with
    | true =>
     have:=Nat.eq_of_beq_eq_true hb
     subst this
     simp only[if_true]
     simp only[zVR,hb,cond_true]at hq
     exact⟨e2,hq,hs2,hz2,hd2,zNb (List.mem_append_right _ (zYn hdm)) hag,hun⟩
    | false =>
     have hne:j≠id:=fun he=>by subst he;rw[Nat.beq_refl]at hb;cases hb
     rw[if_neg hne]
     simp only[zVR,hb,cond_false]at hq
     exact⟨e2,hq,hs2,hz2,hd2,⟨d,zVS hb hdm,hag⟩,hun⟩
   | ret=>exact⟨e2,hq,hs2,hz2,hd2,ho2⟩
   | goto l=>exact ho2.elim
   | panic c=>exact ho2.elim
   | outgrown=>exact ho2.elim
 | _,_,hM,.loop x,D,I,e,a,w,Q,hc,ha,hz,hd,h=>by
  simp only[chk]at hc
  cases hx:chk P V R n x (both V (asg x) D++rm (asg x) D) with
  | none=>simp[hx]at hc
  | some Ix =>
   obtain⟨nx,Ex⟩:=Ix
   simp only[hx]at hc
   cases hsub:(match nx with | some d=>zYk (both V (asg x) D) d | none=>true) with
   | false=>simp only[hsub,cond_false,reduceCtorEq]at hc
   | true =>
    simp only[hsub,cond_true,Option.some.injEq]at hc
    subst hc
    simp only[den]at h
    obtain⟨J,μ,h0,hr⟩:=h
    have hmapL:∀ (f g:Env),zDM D f g->(both V (asg x) D).map f=(both V (asg x) D).map g:=fun f g hfg=>List.map_congr_left fun i hi=>by
     have:=(List.mem_filter.1 hi).2
     simp only[Bool.and_eq_true]at this
     exact hfg i (zBx.1 this.2)
    refine wpIn_loop (fun a' w'=>zHd w w'/\a'.tmps.size=n/\Mks _ _ a'.defers w'.heap/\(∀ i,i ∉ asg x->zBN a' i=zBN a i)/\J ((both V (asg x) D).map (zBN a')) w'.heap)
     (fun a' w'=>μ ((both V (asg x) D).map (zBN a')) w'.heap) ⟨zHd.rfl' w,hz,hd,fun _ _=>rfl,by rw[<- hmapL e (zBN a) ha];exact h0⟩ ?_
    rintro a' w' ⟨hs,hz',hd',hun,hJ⟩
    have hb:=hr _ _ (by simp) hJ
    rw[Cur.app_of (by simp)]at hb
    have hag:zDM (both V (asg x) D++rm (asg x) D) (mg (asg x) (both V (asg x) D) e ((both V (asg x) D).map (zBN a'))) (zBN a'):=zOq rfl ha hun rfl
    refine wpIn_mono (zJN hM x _ _ _ a' w' _ hx hag hz' hd' hb) ?_
    rintro ex a2 w2 ⟨e2,hq,hs2,hz2,hd2,ho2⟩
    cases ex with
    | normal =>
     obtain⟨⟨d,hde,hag2⟩,hun2⟩:=ho2
     simp only at hde
     subst hde
     simp only[zTG]at hq
     rw[Cur.app_of (by simp)]at hq
     have em:(both V (asg x) D).map e2=(both V (asg x) D).map (zBN a2):=List.map_congr_left fun i hi=>hag2 i (zBx.1 (List.all_eq_true.1 hsub i hi))
     rw[em]at hq
     exact⟨⟨hs.trans hs2,hz2,hd2,fun i hi=>(hun2 i hi).trans (hun i hi),hq.1⟩,hq.2⟩
    | exit id=>exact⟨e2,hq,hs.trans hs2,hz2,hd2,ho2.1,fun i hi=>(ho2.2 i hi).trans (hun i hi)⟩
    | ret=>exact⟨e2,hq,hs.trans hs2,hz2,hd2,ho2⟩
    | goto l=>exact ho2.elim
    | panic c=>exact ho2.elim
    | outgrown=>exact ho2.elim
 | _,_,hM,.exit id,D,I,e,a,w,Q,hc,ha,hz,hd,h=>by
  simp only[chk,Option.some.injEq]at hc
  subst hc
  exact wpIn_exit ⟨e,h,zHd.rfl' w,hz,hd,⟨D,by simp,ha⟩,fun _ _=>rfl⟩
 | _,_,hM,.ret,D,I,e,a,w,Q,hc,ha,hz,hd,h=>by
  simp only[chk]at hc
  cases hs:zYk R D with
  | false=>rw[hs]at hc;cases hc
  | true =>
   rw[hs]at hc
   exact wpIn_ret ⟨e,h,zHd.rfl' w,hz,hd,fun i hi=>ha i (zBx.1 (List.all_eq_true.1 hs i hi))⟩
 | ro,M,hM,.rangeFunc g ps as b,D,I,e,a,w,Q,hc,ha,hz,hd,h=>by
  simp only[chk]at hc
  cases hcond:(zUL D g && ps.toList.all (fun p=>Nat.ble (p+1) n) && (!zKu b || zYk R D)) with
  | false=>rw[hcond]at hc;cases hc
  | true =>
   rw[hcond]at hc
   simp only[cond_true]at hc
   simp only[Bool.and_eq_true]at hcond
   obtain⟨⟨hg,hps⟩,hret⟩:=hcond
   cases hcas:chk P V R n as (ps.toList++D) with
   | none=>simp[hcas]at hc
   | some Ias =>
   obtain⟨nas,Eas⟩:=Ias
   cases nas with
   | none=>simp[hcas]at hc
   | some Da =>
   have hnrm:zO9 P V R n as (ps.toList++D)=Da:=by simp[zO9,hcas]
   simp only[hcas]at hc
   cases hb:chk P V R n b Da with
   | none=>simp[hb]at hc
   | some Ib =>
    simp only[hb,Option.some.injEq]at hc
    subst hc
    cases M with
    | false=>simp[den]at h
    | true =>
     have hro:=hM rfl
     subst hro
     simp only[den,cond_true,hnrm]at h
     obtain⟨hn0,h⟩:=h
     refine wpIn_rangeFunc fun fn _=>?_
     obtain⟨rec,hrec⟩:∃ rec:Loop,rec = { state := .ready,pending:=none,fn,tmps:=a.tmps,params:=ps,assign:=as,body:=b,defers:=w.heap.size }:=⟨_,rfl⟩
     have hev:a.eval g=ev e g:=by
      rw[zJG]
      cases g <;> first | rfl | exact(ha _ (zBx.1 hg)).symm
     have hcall:=h rec (by rw[hrec]) (by rw[hrec]) ?_
     ·obtain⟨f,fi,ca,hf,hbody,hcall⟩:=hcall
      obtain⟨fnn,cc,hff,hfb,hname⟩:=zMB hbody
      have hent:∀ args w,(callFunc f args).run P w = .ok (.enter f args) w:=fun args w=>by
       simp only[callFunc,Sem.run_bind,run_program,Result.andThen_ok,hff,hname,hfb];simp
      obtain⟨w1,hw1⟩:∃ w1,(w.alloc (.deferred (some []))).alloc (.loop rec)=w1:=⟨_,rfl⟩
      have hheap:w1.heap=(w.heap.push (.deferred (some []))).push (.loop rec):=by rw[<- hw1];rfl
      have hs1:zHd w w1:=by rw[<- hw1];exact⟨rfl,rfl,rfl,zDL.push.trans zDL.push⟩
      have hk1:w1.heap[w.heap.size]? = some (.deferred (some [])):=by rw[hheap,Array.getElem?_push,if_neg (by simp)];simp
      refine⟨w.heap.size+1,[{ target := .collected w.heap.size,args:=#[] }],w1,{ target := .fn (.func f) ca,args:=fi++#[.func (.yield (w.heap.size+1)) #[] #[]] },w1,f,(fi++#[.func (.yield (w.heap.size+1)) #[] #[]])++ca,w1,?_,?_,fun _ _=>trivial,?_,fun h=>(by cases h),?_⟩
      ·rw[<- hw1,hrec];exact run_enterLoop_outer _ _ _ _ _
      ·simp only[resolve,hev,hf,Deferred.ofValue]
       simp[Act.eval]
      ·simp only[invoke,hent]
      ·have e1:(fi.toList++[Value.func (.yield (w.heap.size+1)) #[] #[]]++ca.toList).toArray=(fi++#[.func (.yield (w.heap.size+1)) #[] #[]])++ca:=by apply Array.ext';simp
       have hc1:=hcall w1 hheap
       rw[e1]at hc1
       refine zO6 (hc1.mono ?_)
       rintro en w3 ⟨v,rfl,hs3,r',hr',hst,hrest⟩
       have hmk:Mks true n0 ({ target := .collected w.heap.size,args:=#[] } :: a.defers) w3.heap:=by
        refine⟨fun h=>(by cases h),.cons (fun d hd' he=>?_) hd.2.1,fun d hd'=>?_⟩
        ·obtain⟨r,h1,_,h3⟩:=hd.2.2 d hd'
         rw[h1]at he
         cases he
         simp at h3
        ·rcases List.mem_cons.1 hd' with rfl | hd'
         ·exact⟨_,rfl,hn0,hs3.solid _ _ hk1⟩
         ·obtain⟨r,h1,h2,h3⟩:=hd.2.2 d hd'
          exact⟨r,h1,h2,hs3.solid _ _ (hs1.solid _ _ h3)⟩
       have hsl:zDL w3.heap (w3.heap.setIfInBounds (w.heap.size+1) (.loop { r' with state := .exhausted })):=zDL.setL hr'
       obtain⟨w4,hw4⟩:∃ w4,w4=w3.putObj (w.heap.size+1) (.loop { r' with state := .exhausted }):=⟨_,rfl⟩
       have hs4:zHd w w4:=by rw[hw4];exact hs1.trans (hs3.trans ⟨rfl,rfl,rfl,hsl⟩)
       have hmk4:Mks true n0 ({ target := .collected w.heap.size,args:=#[] } :: a.defers) w4.heap:=by rw[hw4];exact hmk.solid hsl
       have hrest4:zUP (zKu b) Q e (zYm (chk P V R n b Da)) r'.pending w4.heap:=by rw[hw4];exact hrest
       refine⟨r'.pending,w4,by rw[hw4];exact run_endLoop hr' hst,?_⟩
       clear hrest hw4
       rcases zTH hrest4 with ⟨hj,hq⟩ | ⟨hj,hrt,hq⟩ | ⟨id,hj,hid,hq⟩
       ·rw[hj];exact⟨e,hq,hs4,hz,hmk4,⟨D,rfl,ha⟩,fun _ _=>rfl⟩
       ·rw[hj]
        rw[hrt]at hret
        exact wpIn_ret ⟨e,hq,hs4,hz,hmk4,fun i hi=>ha i (zBx.1 (List.all_eq_true.1 hret i hi))⟩
       ·rw[hj]
        rw[hb]at hid
        obtain⟨d,hd'⟩:=zYo hid
        exact wpIn_exit ⟨e,hq,hs4,hz,hmk4,⟨D,List.mem_map.2 ⟨(id,d),hd',rfl⟩,ha⟩,fun _ _=>rfl⟩
     ·intro args hh k hl hB wy hwy
      subst hwy
      obtain⟨hlen,hB⟩:=hB
      have hy:=run_yield (P:=P) (args:=args.toArray) hl (by rw[hrec];simpa using hlen)
      rw[hrec]at hy
      refine⟨fn,_,as,b,hy,?_⟩
      have hag:zDM (ps.toList++D) (zUQ ps.toList 0 args e) (zBN { tmps:=(ps.zip args.toArray).foldl (fun t (p,v)=>t.setIfInBounds p v) a.tmps,defers:=[] }):=zUS hz hps (by simpa using hlen) ha
      have hz2:((ps.zip args.toArray).foldl (fun t (p,v)=>t.setIfInBounds p v) a.tmps).size=n:=by rw[zUR];exact hz
      have hr0:=roundIn_of_wpIn (F:=Fr none) (n:=0) (P:=P) (l:=w.heap.size+1) (f:=fn) (tmps:=(ps.zip args.toArray).foldl (fun t (p,v)=>t.setIfInBounds p v) a.tmps) (assign:=as) (body:=b) (w:=wy)
       (R:=fun en w'=>∃ v,en = .returned v/\zHd wy w'/\k v w'.heap) trivial (wpIn_mono (zJN (ro:=some (w.heap.size+1)) (M:=false) (fun h=>(by cases h)) as _ _ _ { tmps:=(ps.zip args.toArray).foldl (fun t (p,v)=>t.setIfInBounds p v) a.tmps,defers:=[] } wy _ hcas hag hz2 Mks.nil hB) ?_)
      ·exact hr0
      ·rintro ex1 a1 w1 ⟨e1,hq1,hs1,hz1,hd1,ho1⟩
       cases ex1 with
       | exit id=>exact hq1.elim
       | ret=>exact hq1.elim
       | goto l=>exact hq1.elim
       | panic c=>exact hq1.elim
       | outgrown=>exact hq1.elim
       | normal =>
       obtain⟨⟨d1,hd1',hag1⟩,_⟩:=ho1
       simp only[Option.some.injEq]at hd1'
       subst hd1'
       obtain⟨r1,hl1,hst1,hB1⟩:=hq1
       have hsl:zDL w1.heap (w1.heap.setIfInBounds (w.heap.size+1) (.loop { r1 with state := .busy })):=zDL.setL hl1
       refine⟨_,run_beginRound (P:=P) hl1 hst1,?_⟩
       refine wpIn_mono (zJN (ro:=some (w.heap.size+1)) (M:=false) (fun h=>(by cases h)) b _ _ _ a1 (w1.putObj (w.heap.size+1) (.loop { r1 with state := .busy })) _ hb hag1 hz1 (hd1.solid hsl) hB1) ?_
       rintro ex a2 w2 ⟨e2,hq,hs2,_,_,ho⟩
       have fin:∀ j:Option Code,(∃ r',w2.heap[w.heap.size+1]? = some (.loop r')/\k (.bool j.isNone) (w2.heap.setIfInBounds (w.heap.size+1) (.loop { r' with state:=if j.isNone then .ready else .done,pending:=j }))) ->
         ∃ v w',(Instr.endRound (w.heap.size+1) j).run P w2 = .ok v w'/\∃ v',Ending.returned v = .returned v'/\zHd wy w'/\k v' w'.heap:=by
        rintro j ⟨r',hr',hk'⟩
        have hsa:zHd wy (w1.putObj (w.heap.size+1) (.loop { r1 with state := .busy })):=hs1.trans ⟨rfl,rfl,rfl,hsl⟩
        have hsb:zHd w2 (w2.putObj (w.heap.size+1) (.loop { r' with state:=if j.isNone then .ready else .done,pending:=j })):=⟨rfl,rfl,rfl,zDL.setL hr'⟩
        exact⟨_,_,run_endRound j hr',_,rfl,hsa.trans (hs2.trans hsb),hk'⟩
       cases ex with
       | normal=>exact fin none hq
       | ret=>exact fin (some .ret) hq
       | exit id=>exact fin (some (.exit id)) hq
       | goto l=>exact ho.elim
       | panic c=>exact ho.elim
       | outgrown=>exact ho.elim
 | _,_,hM,.scope x,D,I,e,a,w,Q,hc,ha,hz,hd,h=>by
  simp only[chk]at hc
  simp only[den]at h
  refine zWZ (zJN hM x D I e a w Q hc ha hz hd h) fun l a' w' hq=>?_
  obtain⟨e',_,_,_,_,ho⟩:=hq
  exact ho.elim
 | _,_,hM,.label l,D,I,e,a,w,Q,hc,ha,hz,hd,h=>by
  simp only[chk,Option.some.injEq]at hc
  subst hc
  simp only[den]at h
  exact wpIn_label ⟨e,h,zHd.rfl' w,hz,hd,⟨D,rfl,ha⟩,fun _ _=>rfl⟩
 | _,_,hM,.goto l,D,I,e,a,w,Q,hc,ha,hz,hd,h=>by simp[den]at h
 | _,_,hM,.refuse l,D,I,e,a,w,Q,hc,ha,hz,hd,h=>by simp[den]at h
def zW0 (P:Program):List ResultVar->Env->zAd->(List Value->Prop)->Prop
 | [],_,_,k=>k []
 | .tmp t :: r,e,H,k=>zW0 P r e H fun vs=>k (e t :: vs)
 | .cell t T :: r,e,H,k=>bif zKh P T then Mpu (ldN (P.cellsOf T) H (e t)) (fun v=>zW0 P r e H fun vs=>k (v :: vs)) else
   bif zXG P T then Mpu (ld1 H (e t)) (fun v=>zW0 P r e H fun vs=>k (v :: vs)) else False
def zTI:List Value->Value
 | [v]=>v
 | vs => .tuple vs.toArray
def zEC:List ResultVar->List Nat
 | []=>[]
 | .tmp t :: r=>t :: zEC r
 | .cell t _ :: r=>t :: zEC r
def zXJ:Nat->List Nat
 | 0=>[]
 | n+1=>n :: zXJ n
def zAcf (args:List Value):Env:=fun i=>args.getD i undef
def zAhP (P:Program)(fn:Func)(R:Value->zAd->Prop):Exit->Env->zAd->Prop
 | .normal,e,H=>zW0 P fn.results.toList e H fun vs=>R (zTI vs) H
 | .ret,e,H=>zW0 P fn.results.toList e H fun vs=>R (zTI vs) H
 | _,_,_=>False
def zL0 (n0:Nat)(h h':zAd):Prop:=h'.size=h.size/\(∀ i:Nat,i<n0->h'[i]? = h[i]?)/\∀ (i:Nat) (x:Obj),h[i]? = some x->(∀ ds:Option (List Deferred),x≠Obj.deferred ds)->h'[i]? = some x
def Mcl (n0:Nat)(h:zAd)(k:zAd->Prop):Prop:=∀ h',zL0 n0 h h'->k h'
def zAhQ (P:Program)(n0:Nat)(fn:Func)(R:Value->zAd->Prop):Exit->Env->zAd->Prop
 | .normal,e,H=>Mcl n0 H fun H=>zW0 P fn.results.toList e H fun vs=>R (zTI vs) H
 | .ret,e,H=>Mcl n0 H fun H=>zW0 P fn.results.toList e H fun vs=>R (zTI vs) H
 | _,_,_=>False
def zAgD (P:Program)(V:List Nat)(fn:Func)(args:List Value)(H:zAd)(R:Value->zAd->Prop):Prop :=
 match fn.body with
 | some c=>bif zRs c then den P V (zEC fn.results.toList) fn.ntmps H.size true c (zXJ args.length) (zAcf args) H (zAhQ P H.size fn R)
  else den P V (zEC fn.results.toList) fn.ntmps 0 false c (zXJ args.length) (zAcf args) H (zAhP P fn R)
 | none=>False
def zAgE (P:Program)(V:List Nat)(fn:Func)(nargs:Nat):Bool :=
 match fn.body with
 | some c=>Nat.ble nargs fn.ntmps && (match chk P V (zEC fn.results.toList) fn.ntmps c (zXJ nargs) with
  | some ⟨some d,_⟩=>zYk (zEC fn.results.toList) d
  | some ⟨none,_⟩=>true
  | none=>false)
 | none=>false
theorem zAaM {n i:Nat}:i ∈ zXJ n↔i<n:=by
 induction n with
 | zero=>simp[zXJ]
 | succ n ih=>simp only[zXJ,List.mem_cons,ih];omega
theorem zSw {P:Program}{w:World}{tmps:Array Value}:∀ {l:List ResultVar} {e:Env} {k:List Value->Prop},(∀ i,i ∈ zEC l->e i=tmps.getD i undef)->zW0 P l e w.heap k ->
  ∃ vs,k vs/\∀ g:ResultVar->Sem Value,(∀ t,g (.tmp t)=pure (tmps.getD t undef))->(∀ a t,g (.cell a t)=do loadVar t (<- asAddr (tmps.getD a undef)))->(l.mapM g).run P w = .ok vs w
 | [],e,k,_,h=>⟨[],h,by simp⟩
 | .tmp t :: r,e,k,ha,h=>by
  obtain⟨vs,hk,hr⟩:=zSw (l:=r) (fun i hi=>ha i (by simp[zEC,hi])) h
  refine⟨_,hk,fun g hg1 hg2=>?_⟩
  rw[List.mapM_cons,hg1]
  simp only[Sem.run_bind,Sem.run_pure,Result.andThen_ok,hr g hg1 hg2]
  rw[ha t (by simp[zEC])]
 | .cell t T :: r,e,k,ha,h=>by
  simp only[zW0]at h
  have key:∀ v:Value,(Instr.loadAt T (e t)).run P w = .ok v w->(zW0 P r e w.heap fun vs=>k (v :: vs))->∃ vs,k vs/\∀ g:ResultVar->Sem Value,(∀ t,g (.tmp t)=pure (tmps.getD t undef))->(∀ a t,g (.cell a t)=do loadVar t (<- asAddr (tmps.getD a undef)))->((ResultVar.cell t T :: r).mapM g).run P w = .ok vs w:=by
   intro v hv hh
   obtain⟨vs,hk,hr⟩:=zSw (l:=r) (fun i hi=>ha i (by simp[zEC,hi])) hh
   refine⟨_,hk,fun g hg1 hg2=>?_⟩
   rw[List.mapM_cons,hg2]
   have hl:(do loadVar T (<- asAddr (tmps.getD t undef)):Sem Value).run P w = .ok v w:=by
    rw[<- ha t (by simp[zEC])]
    revert hv
    cases e t <;> simp only[Instr.loadAt,Instr.sureAddr,asAddr] <;> first | (intro hv;simp at hv;done) | skip
    rename_i o
    cases o <;> simp[Instr.sureAddr,asAddr]
   rw[Sem.run_bind,hl]
   simp only[Result.andThen_ok,Sem.run_bind,hr g hg1 hg2,Sem.run_pure]
  cases hagg:zKh P T with
  | true =>
   rw[hagg]at h
   obtain⟨v,hv,hh⟩:=h
   exact key v (zTm hagg hv w rfl) hh
  | false =>
   cases hs:zXG P T with
   | true =>
    rw[hagg,hs]at h
    obtain⟨v,hv,hh⟩:=h
    exact key v (zTl (zQk hs).1 hagg hv w rfl) hh
   | false=>rw[hagg,hs]at h;exact h.elim
theorem zQv {P:Program}{w:World}{fn:Func}{tmps:Array Value}{e:Env}{k:List Value->Prop}(ha:∀ i,i ∈ zEC fn.results.toList->e i=tmps.getD i undef)(h:zW0 P fn.results.toList e w.heap k) :
  ∃ vs,k vs/\(results fn tmps).run P w = .ok (zTI vs) w:=by
 unfold results
 rw[Sem.run_bind,Array.mapM_eq_mapM_toList,Sem.run_map]
 obtain⟨vs,hk,hr⟩:=zSw ha h
 refine⟨vs,hk,?_⟩
 rw[hr]
 rotate_left
 ·intro t;rfl
 ·intro a t;rfl
 simp only[Result.andThen_ok,Sem.run_pure]
 congr 1
 match vs with
 | []=>rfl
 | [v]=>rfl
 | v :: v' :: vs=>simp[zTI]
theorem zL0.refl {n0:Nat}{h:zAd}:zL0 n0 h h:=⟨rfl,fun _ _=>rfl,fun _ _ h _=>h⟩
theorem zPK {P:Program}{m:Nat}{fn:Func}{tmps:Array Value}{w0:World}{R:Ending->World->Prop}:∀ {df:List Deferred} {w:World},df.Pairwise (fun x y=>x.target≠y.target)->(∀ d ∈ df,∃ r,d.target = .collected r/\w0.heap.size<=r/\w.heap[r]? = some (.deferred (some [])))->zHd w0 w ->
  (∀ w2,zL0 w0.heap.size w.heap w2.heap->zHd w0 w2->LeavesIn (Fr none) m P fn tmps R [] .returning w2)->LeavesInM (Fr none) m P fn tmps R df .returning w
 | [],w,_,_,hs,h=>h w zL0.refl hs
 | d :: df,w,hp,hm,hs,h=>by
  obtain⟨r,h1,h2,h3⟩:=hm d (by simp)
  have hp':=List.pairwise_cons.1 hp
  have hs':zHd w0 (w.putObj r (.deferred none)):=⟨hs.os,hs.tape,hs.output,fun i ds hi=>by
   rw[World.putObj_heap_other (by have:=(Array.getElem?_eq_some_iff.1 hi).1;omega)];exact hs.solid i ds hi⟩
  refine⟨by simp,.inl ⟨r,_,h1,run_takeDeferred h3,zPK (w0:=w0) hp'.2 (fun d' hd'=>?_) hs' fun w2 hc hs2=>h w2 ?_ hs2⟩⟩
  ·obtain⟨r',k1,k2,k3⟩:=hm d' (by simp[hd'])
   refine⟨r',k1,k2,?_⟩
   rw[World.putObj_heap_other (fun he=>hp'.1 d' hd' (by rw[h1,k1,he]))];exact k3
  ·obtain⟨c1,c2,c3⟩:=hc
   refine⟨by rw[c1];simp,fun i hi=>by rw[c2 i hi,World.putObj_heap_other (by omega)],fun i x hx hn=>c3 i x ?_ hn⟩
   rw[World.putObj_heap_other (fun he=>by subst he;rw[h3]at hx;cases hx;exact hn _ rfl)];exact hx
theorem zAaN {P:Program}{f:FuncId}{fn:Func}{V:List Nat}{args:List Value}{H:zAd}{R:Value->zAd->Prop}(hf:P.funcs[f]? = some fn)(hc:zAgE P V fn args.length=true)(h:zAgD P V fn args H R):zAg P f args H R:=by
 intro w hw
 subst hw
 unfold zAgE at hc
 unfold zAgD at h
 cases hb:fn.body with
 | none=>simp[hb]at h
 | some c =>
  simp only[hb,Bool.and_eq_true]at hc h
  obtain⟨hle,hc⟩:=hc
  have hle:=Nat.le_of_ble_eq_true hle
  cases hI:chk P V (zEC fn.results.toList) fn.ntmps c (zXJ args.length) with
  | none=>simp[hI]at hc
  | some I =>
   simp only[hI]at hc
   have hA:zDM (zXJ args.length) (zAcf args) (zBN { tmps:=args.toArray++Array.replicate (fn.ntmps - args.toArray.size) undef,defers:=[] }):=by
    intro i hi
    have hi:=zAaM.1 hi
    simp[zAcf,zBN,Array.getElem?_append,hi]
   have hZ:(args.toArray++Array.replicate (fn.ntmps - args.toArray.size) undef).size=fn.ntmps:=by simp;omega
   cases hrf:zRs c with
   | false =>
    rw[hrf]at h
    simp only[cond_false]at h
    refine(callsIn_wide (n:=0)).1 (callsIn_of_wp (F:=Fr none) hf hb trivial ?_)
    refine wpIn_mono (zJN (M:=false) (fun h=>(by cases h)) c _ I (zAcf args) { tmps:=args.toArray++Array.replicate (fn.ntmps - args.toArray.size) undef,defers:=[] } w _ hI hA hZ Mks.nil h) ?_
    rintro ex a' w' ⟨e',hq,hs,hz,hd,ho⟩
    have hd:=hd.1 rfl
    have fin:∀ e':Env,zDM (zEC fn.results.toList) e' (zBN a')->(zW0 P fn.results.toList e' w'.heap fun vs=>R (zTI vs) w'.heap)->∃ v,(results fn a'.tmps).run P w' = .ok v w'/\∃ v',Ending.returned v = .returned v'/\zHd w w'/\R v' w'.heap:=by
     intro e' hag hres
     obtain⟨vs,hR,hr⟩:=zQv (fn:=fn) (tmps:=a'.tmps) (fun i hi=>hag i hi) hres
     exact⟨_,hr,_,rfl,hs,hR⟩
    cases ex with
    | normal =>
     obtain⟨⟨d,hde,hag⟩,_⟩:=ho
     obtain⟨nrm,exs⟩:=I
     simp only at hde
     subst hde
     simp only at hc
     exact⟨hd,fin e' (fun i hi=>hag i (zBx.1 (List.all_eq_true.1 hc i hi))) hq⟩
    | ret=>exact⟨hd,fin e' ho hq⟩
    | exit id=>exact hq.elim
    | goto l=>exact hq.elim
    | panic c=>exact hq.elim
    | outgrown=>exact hq.elim
   | true =>
    rw[hrf]at h
    simp only[cond_true]at h
    refine(callsIn_wide (n:=0)).1 (callsIn_of_wp_marks (F:=Fr none) hf hb trivial ?_)
    refine wpIn_mono (zJN (M:=true) (fun _=>rfl) c _ I (zAcf args) { tmps:=args.toArray++Array.replicate (fn.ntmps - args.toArray.size) undef,defers:=[] } w _ hI hA hZ Mks.nil h) ?_
    rintro ex a' w' ⟨e',hq,hs,hz,hd,ho⟩
    have fin:∀ e':Env,zDM (zEC fn.results.toList) e' (zBN a')->(Mcl w.heap.size w'.heap fun H=>zW0 P fn.results.toList e' H fun vs=>R (zTI vs) H) ->
      LeavesInM (Fr none) 0 P fn a'.tmps (fun e w'=>∃ v,e = .returned v/\zHd w w'/\R v w'.heap) a'.defers .returning w':=by
     intro e' hag hres
     refine zPK hd.2.1 hd.2.2 hs fun w2 hcl hs2=>?_
     obtain⟨vs,hR,hr⟩:=zQv (fn:=fn) (tmps:=a'.tmps) (w:=w2) (fun i hi=>hag i hi) (hres _ hcl)
     exact⟨_,hr,_,rfl,hs2,hR⟩
    cases ex with
    | normal =>
     obtain⟨⟨d,hde,hag⟩,_⟩:=ho
     obtain⟨nrm,exs⟩:=I
     simp only at hde
     subst hde
     simp only at hc
     exact fin e' (fun i hi=>hag i (zBx.1 (List.all_eq_true.1 hc i hi))) hq
    | ret=>exact fin e' ho hq
    | exit id=>exact hq.elim
    | goto l=>exact hq.elim
    | panic c=>exact hq.elim
    | outgrown=>exact hq.elim
def J0 (body:(zAd->Prop)->Prop)(rest:zAd->Prop):Prop:=zIE 0 body rest
@[simp] theorem zYp {body:(zAd->Prop)->Prop}{rest:zAd->Prop}:J0 body rest↔body rest:=zEa
def L0 (body:(zAd->Prop)->zAd->Prop)(H:zAd):Prop:=zSo 0 body [] H
def J1 (body:(Value->zAd->Prop)->Prop)(rest:Value->zAd->Prop):Prop:=zIE 1 body rest
@[simp] theorem zAF {body:(Value->zAd->Prop)->Prop}{rest:Value->zAd->Prop}:J1 body rest↔body rest:=zEa
def L1 (body:(Value->zAd->Prop)->Value->zAd->Prop)(x:Value)(H:zAd):Prop:=zSo 1 body [x] H
def J2 (body:(Value->Value->zAd->Prop)->Prop)(rest:Value->Value->zAd->Prop):Prop:=zIE 2 body rest
@[simp] theorem zYq {body:(Value->Value->zAd->Prop)->Prop}{rest:Value->Value->zAd->Prop}:J2 body rest↔body rest:=zEa
def L2 (body:(Value->Value->zAd->Prop)->Value->Value->zAd->Prop)(x y:Value)(H:zAd):Prop:=zSo 2 body [x,y] H
def J3 (body:(Value->Value->Value->zAd->Prop)->Prop)(rest:Value->Value->Value->zAd->Prop):Prop:=zIE 3 body rest
@[simp] theorem zAgV {body:(Value->Value->Value->zAd->Prop)->Prop}{rest:Value->Value->Value->zAd->Prop}:J3 body rest↔body rest:=zEa
def L3 (body:(Value->Value->Value->zAd->Prop)->Value->Value->Value->zAd->Prop)(x y z:Value)(H:zAd):Prop:=zSo 3 body [x,y,z] H
def J4 (body:(Value->Value->Value->Value->zAd->Prop)->Prop)(rest:Value->Value->Value->Value->zAd->Prop):Prop:=zIE 4 body rest
@[simp] theorem zAiq {body:(Value->Value->Value->Value->zAd->Prop)->Prop}{rest:Value->Value->Value->Value->zAd->Prop}:J4 body rest↔body rest:=zEa
def L4 (body:(Value->Value->Value->Value->zAd->Prop)->Value->Value->Value->Value->zAd->Prop)(x y z u:Value)(H:zAd):Prop:=zSo 4 body [x,y,z,u] H
def J5 (body:(Value->Value->Value->Value->Value->zAd->Prop)->Prop)(rest:Value->Value->Value->Value->Value->zAd->Prop):Prop:=zIE 5 body rest
@[simp] theorem zAgW {body:(Value->Value->Value->Value->Value->zAd->Prop)->Prop}{rest:Value->Value->Value->Value->Value->zAd->Prop}:J5 body rest↔body rest:=zEa
def L5 (body:(Value->Value->Value->Value->Value->zAd->Prop)->Value->Value->Value->Value->Value->zAd->Prop)(x y z u v:Value)(H:zAd):Prop:=zSo 5 body [x,y,z,u,v] H
def J6 (body:(Value->Value->Value->Value->Value->Value->zAd->Prop)->Prop)(rest:Value->Value->Value->Value->Value->Value->zAd->Prop):Prop:=zIE 6 body rest
@[simp] theorem zAir {body:(Value->Value->Value->Value->Value->Value->zAd->Prop)->Prop}{rest:Value->Value->Value->Value->Value->Value->zAd->Prop}:J6 body rest↔body rest:=zEa
def J7 (body:(Value->Value->Value->Value->Value->Value->Value->zAd->Prop)->Prop)(rest:Value->Value->Value->Value->Value->Value->Value->zAd->Prop):Prop:=zIE 7 body rest
@[simp] theorem zAis {body:(Value->Value->Value->Value->Value->Value->Value->zAd->Prop)->Prop}{rest:Value->Value->Value->Value->Value->Value->Value->zAd->Prop}:J7 body rest↔body rest:=zEa
def J8 (body:(Value->Value->Value->Value->Value->Value->Value->Value->zAd->Prop)->Prop)(rest:Value->Value->Value->Value->Value->Value->Value->Value->zAd->Prop):Prop:=zIE 8 body rest
@[simp] theorem zAit {body:(Value->Value->Value->Value->Value->Value->Value->Value->zAd->Prop)->Prop}{rest:Value->Value->Value->Value->Value->Value->Value->Value->zAd->Prop}:J8 body rest↔body rest:=zEa
def L8 (body:(Value->Value->Value->Value->Value->Value->Value->Value->zAd->Prop)->Value->Value->Value->Value->Value->Value->Value->Value->zAd->Prop)(x0 x1 x2 x3 x4 x5 x6 x7:Value)(H:zAd):Prop:=zSo 8 body [x0,x1,x2,x3,x4,x5,x6,x7] H
def J9 (body:(Value->Value->Value->Value->Value->Value->Value->Value->Value->zAd->Prop)->Prop)(rest:Value->Value->Value->Value->Value->Value->Value->Value->Value->zAd->Prop):Prop:=zIE 9 body rest
@[simp] theorem zAgX {body:(Value->Value->Value->Value->Value->Value->Value->Value->Value->zAd->Prop)->Prop}{rest:Value->Value->Value->Value->Value->Value->Value->Value->Value->zAd->Prop}:J9 body rest↔body rest:=zEa
def J10 (body:(Value->Value->Value->Value->Value->Value->Value->Value->Value->Value->zAd->Prop)->Prop)(rest:Value->Value->Value->Value->Value->Value->Value->Value->Value->Value->zAd->Prop):Prop:=zIE 10 body rest
@[simp] theorem zAhR {body:(Value->Value->Value->Value->Value->Value->Value->Value->Value->Value->zAd->Prop)->Prop}{rest:Value->Value->Value->Value->Value->Value->Value->Value->Value->Value->zAd->Prop}:J10 body rest↔body rest:=zEa
def J11 (body:(Value->Value->Value->Value->Value->Value->Value->Value->Value->Value->Value->zAd->Prop)->Prop)(rest:Value->Value->Value->Value->Value->Value->Value->Value->Value->Value->Value->zAd->Prop):Prop:=zIE 11 body rest
@[simp] theorem zAhS {body:(Value->Value->Value->Value->Value->Value->Value->Value->Value->Value->Value->zAd->Prop)->Prop}{rest:Value->Value->Value->Value->Value->Value->Value->Value->Value->Value->Value->zAd->Prop}:J11 body rest↔body rest:=zEa
def J12 (body:(Value->Value->Value->Value->Value->Value->Value->Value->Value->Value->Value->Value->zAd->Prop)->Prop)(rest:Value->Value->Value->Value->Value->Value->Value->Value->Value->Value->Value->Value->zAd->Prop):Prop:=zIE 12 body rest
@[simp] theorem zAhT {body:(Value->Value->Value->Value->Value->Value->Value->Value->Value->Value->Value->Value->zAd->Prop)->Prop}{rest:Value->Value->Value->Value->Value->Value->Value->Value->Value->Value->Value->Value->zAd->Prop}:J12 body rest↔body rest:=zEa
end Go.X
