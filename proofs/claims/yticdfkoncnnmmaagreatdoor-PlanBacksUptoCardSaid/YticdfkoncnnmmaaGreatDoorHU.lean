import Derived.Test.YticdfkoncnnmmaaGreatDoorHR
import Derived.Test.YticdfkoncnnmmaaGreatDoorHF
import Derived.Test.YticdfkoncnnmmaaGreatDoorHN
import Derived.Test.YticdfkoncnnmmaaGreatDoorHP
set_option linter.unusedSimpArgs false
set_option linter.unusedVariables false
set_option maxRecDepth 100000
namespace Go.Proofs.YticdfkoncnnmmaaGreatDoor
open Go.X Go.X.Diff Go.MapKept
theorem zAjo {x y:Item}(hx:x.wf)(hy:y.wf):zAB (eqK prg zCh) .eql (.agg (zFi x).toArray) (.agg (zFi y).toArray)=some (.bool (decide (x=y))):=by
 rw[zMI,zAfe]
 show(zCw zAfd (zFi x).toArray.toList (zFi y).toArray.toList).map Value.bool=_
 rw[zA9,zA9,zAj8 hx hy];rfl
theorem zAjp {P:zA1}{H:zAx}{x:MV}{it:Item}{q:Nat}(hm:zLd P H x.1 x.2.1 x.2.2.1 x.2.2.2)(hsx:x.1.deps.length<=1000/\x.1.conf.length<=1000)(hP:∀ b,P b->b<H.size)(a:At H q (zFi it))(wi:it.wf)(hT:zWz H)(hS:zRs H) :
  zAA prg zMf [.agg (mvC x).toArray,Ptr q 0] H λu H'=>u = .bool (decide (zOs x.1=it))/\Keep No H H':=by
 apply zQH
 unfold zQT
 have w:=hm.wf
 simp only[zB8,zBb]
 have k1:Keep No H (H.push (.cells (mvC x).toArray zAe (0,0))):=Keep.push
 have a1:At (H.push (.cells (mvC x).toArray zAe (0,0))) H.size (mvC x):=At.push
 generalize H.push (.cells (mvC x).toArray zAe (0,0))=h1 at *
 refine zBP (a1.ldN (zBB w)) (zBP ((a.keep k1 id).ldN (zOl wi)) ?_)
 rw[zNY (zBB w),zCo]
 have k2:Keep No h1 (h1.push (.cells (mvC x).toArray zAe (0,0))):=Keep.push
 have hr:=zM9 (n:=8) (x:=mvC x) (T:=zAe) (h:=h1) (zBB w) (zFP (x:=x) hm)
 have hs2:(h1.push (.cells (mvC x).toArray zAe (0,0))).size=h1.size+1:=by simp
 generalize h1.push (.cells (mvC x).toArray zAe (0,0))=h2 at *
 have k02:=k1.trans k2
 have g1:=k1.1
 have hl:zLB (λb=>P b\/b=h1.size) h2 (.slice (some ⟨h1.size,0,none⟩) 1 1) [x]:=⟨hr.mono λ_ => .inr,λy hy=>by rw[zAD.1 hy];exact(hm.keep k02 λ_ _=>id).mono λ_ => .inl,λy hy=>by rw[zAD.1 hy];exact hsx⟩
 rw[(a.keep k02 id).ldN (zOl wi),zBp,zA8]
 refine zAI (zAjg hl (λb hb=>hb.elim (λhb=>zAM (hP b hb) k02.1) λhb=>by omega) (by simp) (hT.keep k02 λ_ h=>h.elim).ops (hT.keep k02 λ_ h=>h.elim).pow (hS.keep k02 λ_ h=>h.elim)) ?_
 rintro t6 h3 ⟨b3,k3⟩
 rw[(a.keep (k02.trans k3) id).ldN (zOl wi),zBp,zA8]
 obtain⟨b,o,hix,hpt,_⟩:=b3.sl.at (i:=0) (x:=zFi (zOs x.1)) rfl
 have hw:=zAaS w
 exact zBP (hix .i64) (zBP (hpt.agg (zOl hw)) (zBP (zAjo hw wi) ⟨rfl,k02.trans k3⟩))
theorem zAla {n:Nat}(h:1<=n)(h':n<=1000000):zAB .no .sub (.int .i64 (n:Nat)) (.int .i64 1)=some (.int .i64 ((n-1:Nat):Int)):=by
 have:=zX0 (i:=n-1) (by omega)
 rwa [show n-1+1=n by omega]at this
def upI (to:List Item)(i:Nat):Bool:=decide (i=0) || decide (zJH ((to.map (·.name)).getD (i-1) []) ((to.map (·.name)).getD i [])<0)
def zOW (to:List Item):Bool:=(List.range to.length).all (upI to)
def zSn (hv:List Man)(x:Item):Option Man:=hv.find? λm=>decide (zOs m=x)
inductive GoB (hv:List Man):List Item->List Man->Prop where
 | nil:GoB hv [] []
 | snoc {l:List Item} {g:List Man} {x:Item} {m:Man} (h:GoB hv l g) (hm:zSn hv x=some m):GoB hv (l++[x]) (g++[m])
theorem GoB.len {hv:List Man}{l:List Item}{g:List Man}(h:GoB hv l g):g.length=l.length:=by
 induction h with
 | nil=>rfl
 | snoc _ _ ih=>simp[ih]
theorem zVU {hv:List Man}{x:Item}{m:Man}(h:zSn hv x=some m):zOs m=x/\m∈hv:=by
 unfold zSn at h
 have:=List.find?_some h
 exact⟨by simpa using this,zCE h⟩
theorem GoB.names {hv:List Man}{l:List Item}{g:List Man}(h:GoB hv l g):g.map (·.name)=l.map (·.name):=by
 induction h with
 | nil=>rfl
 | snoc _ hm ih=>rw[zAF,zAF,ih,zA0,zA0,<- (zVU hm).1];rfl
theorem GoB.mem {hv:List Man}{l:List Item}{g:List Man}(h:GoB hv l g):∀ m∈g,m∈hv:=by
 induction h with
 | nil=>exact λm h=>by cases h
 | snoc _ hm ih =>
  intro m h
  rcases zAp.1 h with h|h
  ·exact ih m h
  ·rw[zAD.1 h];exact(zVU hm).2
theorem GoB.one {hv:List Man}{l:List Item}{g g':List Man}(h:GoB hv l g)(h':GoB hv l g'):g=g':=by
 induction h generalizing g' with
 | nil =>
  generalize hl:([]:List Item)=l at h'
  cases h' with
  | nil=>rfl
  | snoc=>simp at hl
 | @snoc l g x m h hm ih =>
  generalize hl:l++[x]=l2 at h'
  cases h' with
  | nil=>simp at hl
  | @snoc l' g2 x' m' h2 hm2 =>
   obtain⟨e1,e2⟩:=List.append_inj' hl rfl
   cases e2
   subst e1
   rw[hm]at hm2
   cases hm2
   rw[ih h2]
theorem GoB.pick {hv:List Man}{l:List Item}{g:List Man}(h:GoB hv l g):∀ x∈l,(zSn hv x).isSome=true:=by
 induction h with
 | nil=>exact λx h=>by cases h
 | snoc _ hm ih =>
  intro x h
  rcases zAp.1 h with h|h
  ·exact ih x h
  ·rw[zAD.1 h,hm];rfl
def zAgl (inst:List Man)(l:List Pk)(to:List Item)(H H':zAx)(u:Value):Prop :=
 ((zOW to&&zC0 inst)=false/\u=zAlA 10)\/((zOW to&&zC0 inst)=true/\(((∃ x∈to,zSn (zDN inst l) x=none)/\u=zAlA 14)\/∃ goal,GoB (zDN inst l) to goal/\zP7 4 inst l goal H H' u))
theorem zAbN {ns:List (List UInt8)}(h:∀ i,i+1<ns.length->zJH (ns.getD i []) (ns.getD (i+1) [])<0):ns.Pairwise λa b=>zJH a b<0:=by
 have far:∀ d i,i+d+1<ns.length->zJH (ns.getD i []) (ns.getD (i+d+1) [])<0:=λd=>by
  induction d with
  | zero=>exact λi hi=>h i hi
  | succ d ih=>exact λi hi=>zAem (ih i (by omega)) (h (i+d+1) hi)
 rw[zBH]
 intro i j hi hj hij
 have:=far (j-i-1) i (by omega)
 rw[show i+(j-i-1)+1=j by omega]at this
 rw[zCk,zCk,zAj hi,zAj hj]at this
 exact this
theorem zAbO {to:List Item}(h:zOW to=true):(to.map (·.name)).Pairwise λa b=>zJH a b<0:=by
 have hu:=zAw.1 h
 refine zAbN λi hi=>?_
 rw[zAd]at hi
 have:=hu (i+1) (zBC.2 hi)
 unfold upI at this
 simpa using this
theorem zAgm {to:List Item}{i:Nat}{x:Item}(h:to[i]? = some x):(to.map (·.name)).getD i []=x.name:=by
 rw[zCk,zAq,h];rfl
set_option maxHeartbeats 4000000 in
theorem zAlb {P Q R:zA1}{p:Nat}{l:List Pk}{H:zAx}{v vt:Value}{mv:List MV}{to:List Item}(hp:zLB P H v mv)(q:zPr R p l H)(hP:∀ b,P b->b<H.size)(ht:SlE 37 Q H vt (to.map zFi))(wt:∀ x∈to,x.wf)(hl:mv.length<=100)(hll:l.length<=100)(htl:to.length<=100)(hT:zWz H)(hS:zRs H)(hNG:NG<=H.size) :
  zAA prg zQ4 [v,Ptr p 0,vt] H λu H'=>zAgl (zCi mv) l to H H' u/\Keep No H H':=by
 apply zRP
 unfold zTj
 have hR:∀ b,R b->b<H.size:=by obtain⟨_,_,_,_,_,_,_,_,_,_,_,h⟩:=q;exact h
 have zone:∀ c∈chC 0 zCn zCn zCn,c.oneCell'=true:=zOV rfl rfl rfl
 have TT:∀ h',Keep No H h'->zWz h'/\zRs h':=λh' k=>⟨hT.keep k λ_ h=>h.elim,hS.keep k λ_ h=>h.elim⟩
 have hpk:∀ h,Keep No H h->zLB P h v mv:=λh k=>hp.keep k λ_ _=>id
 have hPk:∀ h,Keep No H h->∀ b,P b->b<h.size:=λh k b hb=>zAM (hP b hb) k.1
 obtain⟨zI,hzI,hzl⟩:=zAcQ
 have lt:=ht.len
 rw[zAd]at lt
 refine zAmr zSf λh1 a1 k1=>?_
 have hone:∀ h,Keep No h1 h->At h H.size (chC 0 zCn zCn zCn):=λh k=>a1.keep k id
 have err:∀ (h:zAx) (e:Int),Keep No h1 h->(∀ h',zAgl (zCi mv) l to H h' (zAlA e))->Mpu (zCM prg zBQ []) λt34=>Mwr (stN 4 h (Ptr H.size 0) t34) λh7=>Mpu (ldN 4 h7 (Ptr H.size 0)) λr8=>zAgl (zCi mv) l to H h7 (.tuple #[r8,.int .i64 e])/\Keep No H h7:=λh e k he=>by
  refine zBP zUJ ?_
  obtain⟨h7,st7,a7,k7⟩:=(hone h k).st (n:=4) (ds:=chC 0 zCn zCn zCn) rfl rfl zone
  refine⟨h7,st7,zBP (a7.ldN (n:=4) rfl) ⟨he h7,(k1.trans k).fresh k7 λb e=>by omega⟩⟩
 refine zOt (λ_ h=>zOW to=true/\Keep No h1 h) (λk2 hk2=>?_) ?_
 ·refine zBP lt (zAhi (λi h=>(∀ j,j<i->upI to j=true)/\Keep No h1 h) ⟨λj hj=>by omega,Keep.refl⟩ (λh hI=>hk2 _ _ ⟨by
   unfold zOW
   rw[zAw]
   exact λj hj=>hI.1 j (zBC.1 hj),hI.2⟩) ?_)
  rintro i h hi ⟨hall,kh⟩ k4 hk4
  obtain⟨y,hy,hym⟩:=zPs hi
  have k0h:=k1.trans kh
  obtain⟨b',o',hiy,hpy,_⟩:=(ht.keep k0h λ_ _=>id).at (zIl (f:=zFi) hy)
  have g0:zAB .no .gtr (.int .i64 (i:Nat)) (.int .i64 0)=some (.bool (decide (i > 0))):=zAbu (m:=0)
  have nxt:upI to i=true->k4 (.int .i64 ((i+1:Nat):Int)) h:=λe=>hk4 _ ⟨λj hj=>by
   by_cases hji:j=i
   ·rw[hji];exact e
   ·exact hall j (by omega),kh⟩
  refine zBP g0 (zLZ (λe=>?_) λe=>zNX rfl (zLC hi (by omega) (nxt ?_)))
  ·have e:=of_decide_eq_true e
   obtain⟨x,hx,_⟩:=zPs (l:=to) (i:=i-1) (by omega)
   obtain⟨b,o,hix,hpx,_⟩:=(ht.keep k0h λ_ _=>id).at (zIl (f:=zFi) hx)
   have ub:upI to i=decide (zJH x.name y.name<0):=by unfold upI;rw[zAgm hx,zAgm hy,decide_eq_false (by omega),zCs]
   refine zBP (zAla (by omega) (by omega)) ?_
   rw[hix .i64,zAa,zBf,zAa,zAu]
   refine zBP (hpx.cell0 rfl) ?_
   rw[hiy .i64,zAa,zBf,zAa,zAu]
   refine zBP (hpy.cell0 rfl) (zBP zAnf (zRn (λe2=>err h 10 kh λh' => .inl ⟨?_,rfl⟩) λe2=>zLC hi (by omega) (nxt ?_)))
   ·have:zOW to=false:=by
     unfold zOW
     rw[zCt]
     exact⟨i,zBC.2 hi,by rw[ub];have e2:(!decide (zJH x.name y.name<0))=true:=e2;simpa using e2⟩
    rw[this];rfl
   ·rw[ub];have e2:(!decide (zJH x.name y.name<0))=false:=e2;simpa using e2
  ·have e:=of_decide_eq_false e
   obtain rfl:i=0:=by omega
   rfl
 rintro _ h3 ⟨hri,k3⟩
 have k03:=k1.trans k3
 refine zAI (zRl (hpk _ k03) (hPk _ k03) (by omega) (TT _ k03).1.ops) ?_
 rintro _ h10 ⟨rfl,k10⟩
 have k110:=k3.trans k10
 have k010:=k03.trans k10
 refine zBP rfl (zRn (λe=>err h10 10 k110 λh' => .inl ⟨by have e:(!zC0 (zCi mv))=true:=e;simp at e;rw[e,zBG],rfl⟩) λe=>?_)
 have hr:zC0 (zCi mv)=true:=by have e:(!zC0 (zCi mv))=false:=e;simpa using e
 have good:(zOW to&&zC0 (zCi mv))=true:=by rw[hri,hr];rfl
 let I:Nat->zAm:=λi w h=>∃ F PG goal,GoB (zDN (zCi mv) l) (to.take i) (zCi goal)/\BufE 8 F h w (goal.map mvC)/\(∀ b,F b->h10.size<=b/\b<h.size)/\(∀ x∈goal,zLd PG h x.1 x.2.1 x.2.2.1 x.2.2.2/\x.1.deps.length<=1000/\x.1.conf.length<=1000)/\(∀ b,PG b->b<h.size/\¬ F b)/\Keep No h10 h
 refine zTJ lt I (λw h=>I to.length w h) ⟨No,No,[],.nil,BufE.nil,λb hb=>hb.elim,λx h=>(by cases h),λb hb=>hb.elim,Keep.refl⟩ (λw h hI=>hI) ?_ ?_
 ·rintro i w h hi ⟨F,PG,goal,hgo,hb,hF,hgm,hPG,kh⟩ _ k15 _ hk15
  obtain⟨x,hx,hxm⟩:=zPs hi
  have wx:=wt x hxm
  have k0h:=k010.trans kh
  have k1h:=k110.trans kh
  refine zAex (ht.keep k0h λ_ _=>id) (zIl hx) hzI hzl λh18 a18 k18=>?_
  have k018:=k0h.trans k18
  refine zAI (zWQ (hpk _ k018) (q.keep k018 λ_ _=>id) (by omega) (by omega)) ?_
  rintro t48 h19 ⟨⟨mv',hmv',hl'⟩,k19⟩
  have k019:=k018.trans k19
  have g18:=k18.1
  have g19:=k19.1
  have g018:=k018.1
  have hlen':mv'.length<=200:=by
   have h1:=congrArg List.length hmv'
   have h2:=zYq (inst:=zCi mv) (l:=l)
   rw[zAd]at h1 h2
   omega
  refine zAI (zVL (del:=λy:MV=>decide (zOs y.1=x)) (G:=λg=>Keep No h19 g) hl'.h (λy g hy kg=>?_) (λg k=>k) (by omega)) ?_
  ·refine .inl ⟨zMf,#[],#[Ptr h.size 0],rfl,by kernel_rfl,?_⟩
   have k0g:=k019.trans kg
   exact zAjp ((hl'.keep kg λ_ _=>id).m y hy) (hl'.sm y hy) (λb hb=>by
    have gg:=kg.1
    rcases hb with hb|hb|hb
    ·exact hPk _ k0g b hb
    ·have:=hR b hb;omega
    ·omega) ((a18.keep k19 id).keep kg id) wx (TT _ k0g).1 (TT _ k0g).2
  rintro _ h20 ⟨rfl,k20⟩
  have k120:=((k1h.trans k18).trans k19).trans k20
  have k020:=k019.trans k20
  have hpick:zSn (zDN (zCi mv) l) x=(zCi mv').find? λm=>decide (zOs m=x):=by unfold zSn;rw[hmv']
  rcases zAd9 (p:=λm=>decide (zOs m=x)) (mv:=mv') with ⟨i1,i2⟩|⟨j,y,i1,i2,i3⟩
  ·exact zBP ltZ (zNn (by rw[i1];rfl) (err h20 14 k120 λh' => .inr ⟨good,.inl ⟨⟨x,hxm,by rw[hpick,i2]⟩,rfl⟩⟩))
  refine zBP ltZ (zNX (by rw[i1];simp) ?_)
  refine zAI (zWQ (hpk _ k020) (q.keep k020 λ_ _=>id) (by omega) (by omega)) ?_
  rintro t57 h23 ⟨⟨mv2,hmv2,hl2⟩,k23⟩
  have k023:=k020.trans k23
  have g20:=k20.1
  have g23:=k23.1
  obtain⟨z,hz,hzy⟩:∃ z,mv2[j]? = some z/\z.1=y.1:=by
   have e1:(zCi mv2)[j]? = some y.1:=by rw[hmv2,<- hmv'];exact zIl (f:=λz:MV=>z.1) i2
   rw[zAq]at e1
   obtain⟨z,hz,e⟩:=zBF.1 e1
   exact⟨z,hz,e⟩
  obtain⟨hmz,b,o,hix,hpt,_⟩:=hl2.at hz
  have wz:=hmz.wf
  have hzm:=zAC hz
  rw[i1]
  refine zBP (hix .i64) (zBP (hpt.agg (zBB wz)) ?_)
  have kh23:Keep No h h23:=((k18.trans k19).trans k20).trans k23
  have ghh:=kh23.1
  have hgl:goal.length<=100:=by
   have:=hgo.len
   rw[zAd,zA4]at this;omega
  refine zAd2 (hb.keep kh23 λ_ _=>id) (zNY (zBB wz)) (zBB wz) (zFP (x:=z) hmz) (by omega) (by rw[zAd];omega) λu h25 bu k25=>?_
  have g25:=k25.1
  have kg10:=kh.1
  refine zLC hi (by omega) (hk15 _ _ ⟨λb=>F b\/(h23.size<=b/\b<h25.size),λb=>PG b\/(P b\/R b\/(h20.size<=b/\b<h23.size)),goal++[z],?_,by rw[zAF];exact bu,λb hb=>?_,λy' hy'=>?_,λb hb=>?_,(kh.trans kh23).fresh k25 λb hb=>hb.elim (λhb=>(hF b hb).1) λhb=>by omega⟩)
  ·have hp':zSn (zDN (zCi mv) l) x=some z.1:=by rw[hpick,i3,hzy]
   show GoB _ _ (List.map _ (goal++[z]))
   rw[zAG,hx,zAF]
   exact .snoc hgo hp'
  ·rcases hb with hb|hb
   ·have:=hF b hb;omega
   ·omega
  ·have keepM:∀ b,(PG b\/(P b\/R b\/(h20.size<=b/\b<h23.size)))->¬ (F b\/h23.size<=b):=λb hb hf=>by
    rcases hf with hf|hf
    ·have h1:=hF b hf
     rcases hb with hb|hb|hb|hb
     ·exact(hPG b hb).2 hf
     ·have:=hP b hb;have:=k010.1;omega
     ·have:=hR b hb;have:=k010.1;omega
     ·omega
    ·rcases hb with hb|hb|hb|hb
     ·have:=(hPG b hb).1;omega
     ·have:=hP b hb;have:=k023.1;omega
     ·have:=hR b hb;have:=k023.1;omega
     ·omega
   rcases zAp.1 hy' with hy'|hy'
   ·obtain⟨m1,m2⟩:=hgm y' hy'
    exact⟨((m1.keep kh23 λ_ _=>id).mono λ_ => .inl).keep k25 keepM,m2⟩
   ·rw[zAD.1 hy']
    exact⟨(hmz.mono λ_ => .inr).keep k25 keepM,hl2.sm z hzm⟩
  ·have k025:=k023.1
   rcases hb with hb|hb|hb|hb
   ·exact⟨by have:=(hPG b hb).1;omega,λhf=>hf.elim (hPG b hb).2 λhf=>by have:=(hPG b hb).1;omega⟩
   ·have:=hP b hb
    exact⟨by omega,λhf=>hf.elim (λhf=>by have:=hF b hf;have:=k010.1;omega) λhf=>by omega⟩
   ·have:=hR b hb
    exact⟨by omega,λhf=>hf.elim (λhf=>by have:=hF b hf;have:=k010.1;omega) λhf=>by omega⟩
   ·exact⟨by omega,λhf=>hf.elim (λhf=>by have:=hF b hf;omega) λhf=>by omega⟩
 rintro w _ h14 ⟨F,PG,goal,hgo,hb,hF,hgm,hPG,kh⟩
 rw[zBE]at hgo
 have k014:=k010.trans kh
 have k114:=k110.trans kh
 have hgl:goal.length<=100:=by
  have:=hgo.len
  rw[zAd]at this;omega
 have hrm:zUI goal:=by
  have h1:=zAbO hri
  rw[<- hgo.names]at h1
  unfold zUI
  exact zBu.1 (zBu.1 h1)
 have g010:=k010.1
 have g014:=k014.1
 refine zAI (zWR (kind:=4) (hpk _ k014) (q.keep k014 λ_ _=>id) hb (λx hx=>(hgm x hx).1) (λx hx=>(hgm x hx).2) (λx hx=>by have:=zSg hr x.1 (zAo.2 ⟨x,hx,rfl⟩);omega) hrm (λb hb=>?_) (λb hb=>(hF b hb).2) (by omega) (by omega) (by omega) (TT _ k014).1.ops λh k=>(TT _ k014).1.ops.keep k λb hb=>by have:=(hF b hb).1;omega) ?_
 ·rcases hb with hb|hb|hb
  ·have:=hP b hb
   exact⟨by omega,λhf=>by have:=(hF b hf).1;omega⟩
  ·have:=hR b hb
   exact⟨by omega,λhf=>by have:=(hF b hf).1;omega⟩
  ·exact hPG b hb
 rintro u h26 ⟨hcr,k26⟩
 have l1:=a1.lt
 have g110':=k110.1
 have ac:At h26 H.size (chC 0 zCn zCn zCn):=(hone _ k114).keep k26 λhb=>by have:=(hF _ hb).1;omega
 have kc:Keep No H h26:=k014.fresh k26 λb hb=>by have:=(hF b hb).1;omega
 have x0:∀ a b:Value,zE0 0 (.tuple #[a,b])=some a:=λ_ _=>rfl
 have x1:∀ a b:Value,zE0 1 (.tuple #[a,b])=some b:=λ_ _=>rfl
 have g1:=k1.1
 have g110:=k110.1
 have gkh:=kh.1
 rcases hcr with ⟨c1,rfl⟩|⟨c1,n0,zz,col,d,s',t',dr,ad,af,rfl,c3,c4,c5⟩
 ·rw[x0,zAa,x1,zAa]
  obtain⟨h37,st37,a37,k37⟩:=ac.st (n:=4) (ds:=chC 0 zCn zCn zCn) rfl rfl zone
  rw[st37,zAW,a37.ldN (n:=4) rfl,zAa]
  exact⟨.inr ⟨good,.inr ⟨_,hgo,.inl ⟨c1,rfl⟩⟩⟩,kc.fresh k37 λb e=>by omega⟩
 ·rw[x0,zAa,x1,zAa]
  obtain⟨h37,st37,a37,k37⟩:=ac.st (n:=4) (ds:=chC 4 d s' t') rfl rfl (zOV c4.bd.sl.oneC c4.bs.sl.oneC c4.bt.sl.oneC)
  rw[st37,zAW,a37.ldN (n:=4) rfl,zAa]
  have c3':h14.size<=zz:=c3
  have hzl':zz<n0:=c4.zl
  have hH14:H.size<h14.size:=(hone _ k114).lt
  have hlow:∀ b,b=H.size->b<n0/\b≠zz:=λb e=>by omega
  exact⟨.inr ⟨good,.inr ⟨_,hgo,.inr ⟨c1,n0,zz,_,d,s',t',dr,ad,af,rfl,zBh g014 c3,c4.low k37 λb e => .inl (hlow b e),c5⟩⟩⟩,kc.fresh k37 λb e=>by omega⟩
def zAhu (l:List Pk):Prop:=∀ x∈l,∀ y∈l,x.1.name=y.1.name->x.1.ver=y.1.ver->x=y
theorem zAgn {l:List Pk}{x:Pk}(h:zAhu l):zAhu (zSr l x):=by
 unfold zSr
 cases hk:zTL x
 ·exact h
 ·cases hf:l.find? (zJy x.1.name x.1.ver) with
  | some y=>exact h
  | none =>
   simp only[zAc,if_false]
   split
   ·exact h
   ·have no:∀ z∈l,z.1.name=x.1.name->z.1.ver=x.1.ver->False:=λz hz e1 e2=>by
     have:=zCq.1 hf z hz
     unfold zJy at this
     simp[e1,e2]at this
    intro y hy z hz e1 e2
    rcases zAp.1 hy with hy|hy<;>rcases zAp.1 hz with hz|hz
    ·exact h y hy z hz e1 e2
    ·rw[zAD.1 hz]at e1 e2;exact(no y hy e1 e2).elim
    ·rw[zAD.1 hy]at e1 e2;exact(no z hz e1.symm e2.symm).elim
    ·rw[zAD.1 hy,zAD.1 hz]
theorem zAeo {l:List Pk}:zAhu (zQb l):=by
 have:∀ (l m:List Pk),zAhu m->zAhu (l.foldl zSr m):=λl=>by
  induction l with
  | nil=>exact λm h=>h
  | cons x l ih=>exact λm h=>ih _ (zAgn h)
 exact this l [] λy h=>by cases h
theorem zAgo {l:List Pk}(h:zAhu l){x:Pk}(hx:x∈l):zJA l x.1=x:=by
 unfold zJA
 cases hf:l.find? (zJy x.1.name x.1.ver) with
 | none =>
  have:=zCq.1 hf x hx
  unfold zJy at this
  simp at this
 | some y =>
  have hs:=List.find?_some hf
  unfold zJy at hs
  simp only[zAk,decide_eq_true_eq]at hs
  exact h y (zCE hf) x hx hs.1 hs.2
theorem zZz {α:Type}{p q:α->Bool}:∀ {l:List α},(∀ x∈l,p x=q x)->l.find? p=l.find? q
 | [],_=>rfl
 | x::l,h=>by
  rw[zC6,zC6,h x (by simp),zZz λy hy=>h y (by simp[hy])]
def zS7 (inst:List Man)(m:Man):Bool:=inst.any λo=>decide (o.name=m.name)&&decide (o.ver=m.ver) && !zRm o m
def zAhv (inst:List Man)(x:Item)(m:Man):Bool:=decide (zOs m=x) && !zS7 inst m
def zZA (inst:List Man)(l:List Pk)(x:Item):Option Man:=(inst++l.map (·.1)).find? (zAhv inst x)
theorem zAbP {inst:List Man}{l:List Pk}{x:Item}(hr:zC0 inst=true):zZA inst l x=zSn (zDN inst l) x:=by
 unfold zZA zSn zDN
 rw[List.find?_append,List.find?_append]
 have h1:inst.find? (zAhv inst x)=inst.find? λm=>decide (zOs m=x):=by
  refine zZz λm hm=>?_
  unfold zAhv
  have:zS7 inst m=false:=by
   unfold zS7
   refine zCu.2 λo ho=>?_
   by_cases e:o.name=m.name
   ·rw[zVQ hr ho hm e,zSb.2 rfl];simp
   ·simp[e]
  rw[this];simp
 rw[h1]
 cases hf:inst.find? λm=>decide (zOs m=x) with
 | some y=>rfl
 | none =>
  show(l.map (·.1)).find? (zAhv inst x)=((l.map (·.1)).filter (zYf inst)).find? λm=>decide (zOs m=x)
  rw[List.find?_filter]
  refine zZz λm _=>?_
  unfold zAhv
  by_cases e:zOs m=x
  ·rw[decide_eq_true e,zBa,zYn (zP9 hr)]
   simp only[decide_true,and_true,Bool.decide_eq_true,Bool.and_true]
   congr 1
   unfold zS7 zAbK
   rw[zAR,zBz,zBz]
   constructor
   ·rintro⟨o,ho,h⟩
    rw[zAk]at h
    exact⟨o,ho,h.1⟩
   ·rintro⟨o,ho,h⟩
    refine⟨o,ho,?_⟩
    rw[h,zBa,zBt]
    cases hm:zRm o m
    ·rfl
    ·have:=zCq.1 hf o ho
     rw[zSb.1 hm]at this
     simp[e]at this
  ·rw[decide_eq_false e];simp
theorem zAgp {inst goal:List Man}{l:List Pk}(hr:zC0 inst=true)(hl:zAhu l)(hg:∀ m∈goal,m∈zDN inst l):(∀ x∈inst,∀ y∈goal,x.name=y.name->x.ver=y.ver->x=y)/\∀ m∈goal,m∉inst->zJA l m∈l/\(zJA l m).1=m:=by
 refine⟨λx hx y hy e1 e2=>?_,λm hm hn=>?_⟩
 ·rcases zAp.1 (hg y hy) with h|h
  ·exact zVQ hr hx h e1
  ·have h2:=(zBd.1 h).2
   rw[zYn (zP9 hr)]at h2
   have:zAbK inst y=true:=zBz.2 ⟨x,hx,by simp[e1,e2]⟩
   rw[this]at h2;cases h2
 ·rcases zAp.1 (hg m hm) with h|h
  ·exact absurd h hn
  ·obtain⟨y,hy,rfl⟩:=zAo.1 (zBd.1 h).1
   rw[zAgo hl hy]
   exact⟨hy,rfl⟩
def zU8 (inst:List Man)(l:List Pk)(to:List Item)(H h:zAx)(kd:Int)(d s t:Value)(e:Int):Prop :=
 (kd=0/\d=zCn/\s=zCn/\t=zCn/\((zOW to&&zC0 inst)=false/\e=10\/(zOW to&&zC0 inst)=true/\((∃ x∈to,zSn (zDN inst l) x=none)/\e=14\/∃ goal,GoB (zDN inst l) to goal/\zC0 goal=false/\e=41))) \/
 (kd=4/\e=0/\(zOW to&&zC0 inst)=true/\∃ goal n0 zz col dr ad af,GoB (zDN inst l) to goal/\zC0 goal=true/\H.size<=zz/\ChI n0 zz 4 col d s t dr ad af h/\zCi dr=inst.filter (λm=>!zG9 goal m)/\ad.map zJg=(goal.filter λm=>!zG9 inst m).map (zJA l)/\zCi af=goal)
theorem zAlc {inst:List Man}{l:List Pk}{to:List Item}{H h:zAx}{u:Value}(m:zAgl inst l to H h u) :
  ∃ kd d s t e,u = .tuple #[.agg (chC kd d s t).toArray,.int .i64 e]/\(d.oneCell'=true/\s.oneCell'=true/\t.oneCell'=true)/\zU8 inst l to H h kd d s t e:=by
 rcases m with ⟨h1,rfl⟩|⟨h1,⟨h2,rfl⟩|⟨goal,hg,⟨hr,rfl⟩|⟨hr,n0,zz,col,d,s,t,dr,ad,af,rfl,h2,h3,h4,h5,h6⟩⟩⟩
 ·exact⟨0,zCn,zCn,zCn,10,rfl,⟨rfl,rfl,rfl⟩,.inl ⟨rfl,rfl,rfl,rfl,.inl ⟨h1,rfl⟩⟩⟩
 ·exact⟨0,zCn,zCn,zCn,14,rfl,⟨rfl,rfl,rfl⟩,.inl ⟨rfl,rfl,rfl,rfl,.inr ⟨h1,.inl ⟨h2,rfl⟩⟩⟩⟩
 ·exact⟨0,zCn,zCn,zCn,41,rfl,⟨rfl,rfl,rfl⟩,.inl ⟨rfl,rfl,rfl,rfl,.inr ⟨h1,.inr ⟨goal,hg,hr,rfl⟩⟩⟩⟩
 ·exact⟨4,d,s,t,0,rfl,⟨h3.bd.sl.oneC,h3.bs.sl.oneC,h3.bt.sl.oneC⟩,.inr ⟨rfl,rfl,h1,goal,n0,zz,col,dr,ad,af,hg,hr,h2,h3,h4,h5,h6⟩⟩
section
variable {inst:List Man} {l:List Pk} {to:List Item} {H h:zAx} {kd:Int} {d s t:Value} {e:Int} {G:List Man}
theorem zU8.form (m:zU8 inst l to H h kd d s t e)(hq:(zOW to&&zC0 inst)=false):t=zCn/\e=10:=by
 rcases m with ⟨_,_,_,h3,⟨_,h4⟩|⟨h4,_⟩⟩|⟨_,_,h4,_⟩
 ·exact⟨h3,h4⟩
 ·rw[hq]at h4;cases h4
 ·rw[hq]at h4;cases h4
theorem GoB.not {hv:List Man}{g:List Man}(hg:GoB hv to g)(h:∃ x∈to,zSn hv x=none):False:=by
 obtain⟨x,hx,hn⟩:=h
 have:=hg.pick x hx
 rw[hn]at this;cases this
theorem zU8.none (m:zU8 inst l to H h kd d s t e)(hq:(zOW to&&zC0 inst)=true)(hn:∃ x∈to,zSn (zDN inst l) x=none):t=zCn/\e=14:=by
 rcases m with ⟨_,_,_,h3,⟨h4,_⟩|⟨_,⟨_,h4⟩|⟨g,hg,_⟩⟩⟩|⟨_,_,_,g,_,_,_,_,_,_,hg,_⟩
 ·rw[hq]at h4;cases h4
 ·exact⟨h3,h4⟩
 ·exact(hg.not hn).elim
 ·exact(hg.not hn).elim
theorem zU8.clash (m:zU8 inst l to H h kd d s t e)(hq:(zOW to&&zC0 inst)=true)(hG:GoB (zDN inst l) to G)(hr:zC0 G=false):e=41:=by
 rcases m with ⟨_,_,_,h3,⟨h4,_⟩|⟨_,⟨h4,_⟩|⟨g,hg,_,h4⟩⟩⟩|⟨_,_,_,g,_,_,_,_,_,_,hg,h4,_⟩
 ·rw[hq]at h4;cases h4
 ·exact(hG.not h4).elim
 ·exact h4
 ·rw[hg.one hG,hr]at h4;cases h4
theorem zU8.ok (m:zU8 inst l to H h kd d s t e)(hq:(zOW to&&zC0 inst)=true)(hG:GoB (zDN inst l) to G)(hr:zC0 G=true):kd=4/\e=0/\∃ n0 zz col dr ad af,H.size<=zz/\ChI n0 zz 4 col d s t dr ad af h/\zCi dr=inst.filter (λm=>!zG9 G m)/\ad.map zJg=(G.filter λm=>!zG9 inst m).map (zJA l)/\zCi af=G:=by
 rcases m with ⟨_,_,_,h3,⟨h4,_⟩|⟨_,⟨h4,_⟩|⟨g,hg,h4,_⟩⟩⟩|⟨h1,h2,_,g,n0,zz,col,dr,ad,af,hg,h4,h5⟩
 ·rw[hq]at h4;cases h4
 ·exact(hG.not h4).elim
 ·rw[hg.one hG,hr]at h4;cases h4
 ·rw[hg.one hG]at h5
  exact⟨h1,h2,n0,zz,col,dr,ad,af,h5⟩
end
theorem zAnG {body:(Value->Value->Value->Value->zAm)->Prop}{rest:Value->Value->Value->Value->zAm}(I:Value->zAm)(h1:∀ k:Value->Value->Value->Value->zAm,(∀ a b c d e h,I a b h->k a b c d e h)->body k)(h2:∀ a b c d e h,I a b h->rest a b c d e h):J5 body rest :=
 zAjK.2 (h1 rest h2)
theorem zAmD {h:zAx}{K:zAm}(hK:∀ h',BufE 8 (λb=>h.size<=b) h' (.slice (some ⟨h.size,0,none⟩) 0 0) []->Keep No h h'->K (.slice (some ⟨h.size,0,none⟩) 0 0) h'):zD2 h zAe 0 (zF6 prg zAe 0 []) K:=by
 rw[zAjm,zCo]
 exact hK _ (BufE.fresh (cs:=[]) ⟨h.size,rfl,zAh _,zCj⟩ (zAh _) (by simp) (λ_ _=>by simp[zUV]) (by simp) (λx h=>by cases h) (λx h=>by cases h)) Keep.push
section
variable {h:zAx} {q:Nat} {x:Item}
theorem zAld (w:x.wf):(zFi x)[4]? = some (str x.ver.pre):=by
 obtain⟨a,b,c,e⟩:=Ver.cases3 w.ver
 simp[zFi,zEm,e,zCm]
theorem zAle (a:At h q (zFi x))(w:x.wf):ldN 4 h (Ptr q 1)=some (.agg (zEm x.ver).toArray):=by
 obtain⟨T,a⟩:=a
 exact ldN_mid (A:=[str x.name]) (B:=zEm x.ver) (C:=zBs x.sum) a rfl (zDH w.ver).symm
theorem zAep (a:At h q (zFi x))(w:x.wf):ldN 32 h (Ptr q 5)=some (bv x.sum):=by
 have e:zFi x=(str x.name::zEm x.ver)++zBs x.sum++[]:=by simp[zFi]
 have:Pt h q 5 (zBs x.sum):=Pt.mid (A:=str x.name::zEm x.ver) (B:=zBs x.sum) (C:=[]) (o:=0) (by rw[<- e];exact a.pt) (by simp[zDH w.ver])
 exact this.agg (by simp[w.sum])
end
theorem zAnH {a b:List UInt8}:zAB .no .lss (str a) (str b)=some (.bool (decide (zJH a b<0))):=by
 rw[<- zWM,zGf]
 simp only[zTt,zLg]
theorem zAeq {α:Type}{l:List α}{i:Nat}{x:α}{p:α->Bool}(h:l[i]? = some x):(l.take (i+1)).find? p=((l.take i).find? p).or (if p x then some x else none):=by
 rw[zAG,h,List.find?_append]
 congr 1
 show List.find? p [x]=_
 rw[zC6]
 cases p x<;>rfl
theorem zAjq {to:List Item}{i:Nat}:(List.range (i+1)).all (upI to)=((List.range i).all (upI to)&&upI to i):=by
 rw[List.range_succ,zCO];simp
structure zAaV (P R:zA1)(H h:zAx)(v vt:Value)(mv:List MV)(to:List Item)(l:List Pk)(kd:Int)(d s t:Value)(e:Int)(Hm hm:zAx)(q:Nat):Prop where
 k:Keep No H h
 mh:Keep No hm h
 i:zLB P h v mv
 y:SlE 37 R h vt (to.map zFi)
 c:At h q (chC kd d s t)
 m:zU8 (zCi mv) l to Hm hm kd d s t e
theorem zAaV.keep {P R:zA1}{H h h':zAx}{v vt:Value}{mv:List MV}{to:List Item}{l:List Pk}{kd:Int}{d s t:Value}{e:Int}{Hm hm:zAx}{q:Nat}(b:zAaV P R H h v vt mv to l kd d s t e Hm hm q)(k:Keep No h h'):zAaV P R H h' v vt mv to l kd d s t e Hm hm q :=
 ⟨b.k.trans k,b.mh.trans k,b.i.keep k λ_ _=>id,b.y.keep k λ_ _=>id,b.c.keep k id,b.m⟩
theorem zAlf {P Q:zA1}{H:zAx}{v:Value}{mv:List MV}{y:MV}{qy:Nat}{R:zAm}(hp:zLB P H v mv)(hy:zLd Q H y.1 y.2.1 y.2.2.1 y.2.2.2)(a:At H qy (mvC y))(hsy:y.1.deps.length<=1000/\y.1.conf.length<=1000)(hf:∀ x∈mv,x.1.files.length<=1000)(hfy:y.1.files.length<=1000)(hl:mv.length<=1000)
  (hr:∀ h,Keep No H h->R (.bool (zS7 (zCi mv) y.1)) h) :
  J2 (λk62=>Mpu (lenV v) λt154=>L2 (λk64=>λt19_2 t155_2 h65 =>
   Mpu (zAB .no .lss t155_2 t154) λt156=>Mcd t156 (
    Mpu (ixS 8 v t155_2) λt157=>Mpu (ldN 8 h65 t157) λt158=>zDC h65 zAe (zBI prg zAe) λt21 h66=>Mwr (stN 8 h66 t21 t158) λh67 =>
    J1 (λk68=>Mif t19_2 false (Mpu (fld 0 t21) λt161=>Mpu (ld1 h67 t161) λt162=>Mpu (fld 0 (Ptr qy 0)) λt163=>Mpu (ld1 h67 t163) λt164=>Mpu (zAB .no .eql t162 t164) λt165=>k68 t165 h67) (k68 undef h67)) λt166_2 h69 =>
    J1 (λk70=>Mif t166_2 true (Mpu (fld 1 t21) λt167=>Mpu (ldN 4 h69 t167) λt168=>Mpu (fld 1 (Ptr qy 0)) λt169=>Mpu (ldN 4 h69 t169) λt170=>Mpu (zAB (eqK prg zAO) .eql t168 t170) λt171=>k70 t171 h69) (k70 undef h69)) λt171_2 h71 =>
    J1 (λk72=>Mif t19_2 false (Mpu (zBD t166_2 t171_2 (.bool false)) λt172=>k72 t172 h71) (k72 undef h71)) λt173_2 h73 =>
    J1 (λk74=>Mif t173_2 true (Mpu (ldN 8 h73 t21) λt174=>Mpu (ldN 8 h73 (Ptr qy 0)) λt175=>zAX prg zDg [t174,t175] h73 λt176 h75=>Mpu (unV .not t176) λt177=>k74 t177 h75) (k74 undef h73)) λt177_2 h76 =>
    J1 (λk77=>Mif t19_2 false (Mpu (zBD t173_2 t177_2 (.bool false)) λt178=>k77 t178 h76) (k77 undef h76)) λt178_2 h78 =>
    Mpu (zBD t19_2 (.bool true) t178_2) λt179=>Mpu (zAB .no .add t155_2 (.int .i64 1)) λt180=>k64 t179 t180 h78) (
    k62 t19_2 t155_2 h65)) (.bool false) (.int .i64 0) H) λt19_4 _ h63=>R t19_4 h63:=by
 refine zMk (λt19 _ h=>t19 = .bool (zS7 (zCi mv) y.1)/\Keep No H h) (λk62 hk62=>?_) λ_ _ h hI=>by rw[hI.1];exact hr h hI.2
 refine zBP hp.len (zWP (λi t19 h=>t19 = .bool (zS7 ((zCi mv).take i) y.1)/\Keep No H h) ⟨rfl,Keep.refl⟩ (λt19 h hI=>hk62 _ _ _ (by
  rw[zAr (by simp)]at hI;exact hI)) ?_)
 rintro i _ h hi ⟨rfl,kh⟩ k64 hk64
 obtain⟨x,hx,hxm⟩:=zPs hi
 have hmx:=(hp.keep kh λ_ _=>id).m x hxm
 have wx:=hmx.wf
 have wy:=hy.wf
 have gx:(zCi mv)[i]? = some x.1:=zIl hx
 have st:zS7 ((zCi mv).take (i+1)) y.1=(zS7 ((zCi mv).take i) y.1 || (decide (x.1.name=y.1.name)&&decide (x.1.ver=y.1.ver) && !zRm x.1 y.1)):=zTI (p:=λo:Man=>decide (o.name=y.1.name)&&decide (o.ver=y.1.ver) && !zRm o y.1) gx
 refine zAex (hp.keep kh λ_ _=>id).h (zIl hx) zL8 (zBB zOr) λh7 a7 k7=>?_
 have k07:=kh.trans k7
 have a7':At h7 h.size (zGN x.1 x.2.1 x.2.2.1 x.2.2.2):=a7
 have ay:At h7 qy (zGN y.1 y.2.1 y.2.2.1 y.2.2.2):=a.keep k07 id
 have fin:∀ (b:Bool) (h':zAx),Keep No H h'->zS7 ((zCi mv).take (i+1)) y.1=b->Mpu (zAB .no .add (.int .i64 (i:Nat)) (.int .i64 1)) λt180=>k64 (.bool b) t180 h':=λb h' k e=>zLC hi (by omega) (hk64 _ _ ⟨by rw[e],k⟩)
 simp only[zBf,zAi,zAu,zAa]
 cases hs:zS7 ((zCi mv).take i) y.1
 ·rw[hs,zCs]at st
  refine zDo rfl (zBP (zDz a7') (zBP (zDz ay) (zBP zDV ?_)))
  by_cases e1:x.1.name=y.1.name
  ·refine zDo (decide_eq_true e1) (zBP (zHu a7' wx) (zBP (zHu ay wy) (zBP (zAbk wx.ver wy.ver) (zDo rfl ?_))))
   rw[decide_eq_true e1]
   refine zAa.2 ?_
   show J1 _ _
   by_cases e2:x.1.ver=y.1.ver
   ·rw[decide_eq_true e2]
    refine zDo rfl (zBP (a7.ldN (zBB wx)) (zBP ((a.keep k07 id).ldN (zBB wy)) ?_))
    have hsx:=hp.sm x hxm
    refine zAI (zS2 (hmx.keep k7 λ_ _=>id) (hy.keep k07 λ_ _=>id) (by omega) (by omega) (by have:=hf x hxm;omega)) ?_
    rintro _ h9 ⟨rfl,k9⟩
    refine zBP rfl (zDo rfl (zAa.2 (zAa.2 ?_)))
    exact fin _ _ (k07.trans k9) (by rw[st,decide_eq_true e1,decide_eq_true e2];rfl)
   ·rw[decide_eq_false e2]
    refine zId (by decide) (zDo rfl (zAa.2 (zAa.2 ?_)))
    exact fin _ _ k07 (by rw[st,decide_eq_false e2,zBG];rfl)
  ·rw[decide_eq_false e1]
   refine zId (by decide) (zDo rfl (zAa.2 ?_))
   refine zId (by decide) (zDo rfl (zAa.2 (zAa.2 ?_)))
   exact fin _ _ k07 (by rw[st,decide_eq_false e1];rfl)
 ·rw[hs,Bool.true_or]at st
  refine zId (by decide) (zBT.2 (zAU.2 (zId (by decide) (zBT.2 (zAU.2 (zId (by decide) (zAa.2 ?_)))))))
  exact fin _ _ k07 st
set_option maxHeartbeats 4000000 in
theorem zAlg {P F Fw:zA1}{H0 H:zAx}{v wa w:Value}{mv gv:List MV}{out:List PW}{x:Item}{q1:Nat}{REST:Value->Value->zAm}(hp:zLB P H v mv)(ha:zRp F H wa out)(hPl:∀ b,P b\/F b->b<H0.size)(so:zP8 (zGU out))(sm:zP8 mv)(ml:mv.length<=8)(ol:out.length<=10)(wx:x.wf)(ax:At H q1 (zFi x))
  (hw:BufE 8 Fw H w (gv.map mvC)) (hFw:∀ b,Fw b->H0.size<=b/\b<q1) (hgl:gv.length<=100) (hT:zWz H0) (hS:zRs H0) (k00:Keep No H0 H)
  (hr:∀ (o:Option MV) (w' z:Value) (h:zAx) (F':zA1),(mv++zGU out).find? (λy=>zAhv (zCi mv) x y.1)=o->BufE 8 F' h w' ((gv++o.toList).map mvC)->(∀ b,F' b->H0.size<=b/\b<h.size)->Keep No H0 h->REST w' (.bool o.isSome) z h) :
  J3 (λk42 =>
   zD2 H zAe 0 (zF6 prg zAe 0 []) λt118 h44=>zIw zAe 8 128 h44 t118 v λt120 h45=>zAX prg zDY [wa] h45 λt122 h46=>zIw zAe 8 128 h46 t120 t122 λt123 h47=>Mpu (lenV t123) λt124 =>
   L3 (λk48=>λt13_3 t16_2 t125_2 h49=>Mpu (zAB .no .lss t125_2 t124) λt126=>Mcd t126 (
    J5 (λk50 =>
     Mpu (ixS 8 t123 t125_2) λt127=>Mpu (ldN 8 h49 t127) λt128=>zDC h49 zAe (zBI prg zAe) λt18 h52=>Mwr (stN 8 h52 t18 t128) λh53=>Mpu (unV .not t16_2) λt130 =>
     J1 (λk54=>Mif t130 true (Mpu (fld 0 t18) λt132=>Mpu (ld1 h53 t132) λt133=>Mpu (fld 0 (Ptr q1 0)) λt134=>Mpu (ld1 h53 t134) λt135=>Mpu (zAB .no .eql t133 t135) λt136=>k54 t136 h53) (k54 undef h53)) λt136_2 h55 =>
     Mpu (zBD t130 t136_2 (.bool false)) λt137 =>
     J1 (λk56=>Mif t137 true (Mpu (fld 1 t18) λt139=>Mpu (ldN 4 h55 t139) λt140=>Mpu (fld 1 (Ptr q1 0)) λt141=>Mpu (ldN 4 h55 t141) λt142=>Mpu (zAB (eqK prg zAO) .eql t140 t142) λt143=>k56 t143 h55) (k56 undef h55)) λt143_2 h57 =>
     Mpu (zBD t137 t143_2 (.bool false)) λt144 =>
     J1 (λk58=>Mif t144 true (Mpu (ldN 8 h57 t18) λt146=>Mpu (fld 5 (Ptr q1 0)) λt149=>Mpu (ldN 32 h57 t149) λt150=>zAX prg zDJ [t146] h57 λt147 h59=>Mre [(ldN 32 h59 t149,t150)] (
      zAX prg zMv [t147] h59 λt148 h60=>Mre [(ldN 32 h60 t149,t150)] (Mpu (zAB (eqK prg zB5) .eql t148 t150) λt151=>k58 t151 h60))) (k58 undef h57)) λt151_2 h61 =>
     Mpu (zBD t144 t151_2 (.bool false)) λt152 =>
     Mcd t152 (
      J2 (λk62=>Mpu (lenV v) λt154=>L2 (λk64=>λt19_2 t155_2 h65 =>
       Mpu (zAB .no .lss t155_2 t154) λt156=>Mcd t156 (
        Mpu (ixS 8 v t155_2) λt157=>Mpu (ldN 8 h65 t157) λt158=>zDC h65 zAe (zBI prg zAe) λt21 h66=>Mwr (stN 8 h66 t21 t158) λh67 =>
        J1 (λk68=>Mif t19_2 false (Mpu (fld 0 t21) λt161=>Mpu (ld1 h67 t161) λt162=>Mpu (fld 0 t18) λt163=>Mpu (ld1 h67 t163) λt164=>Mpu (zAB .no .eql t162 t164) λt165=>k68 t165 h67) (k68 undef h67)) λt166_2 h69 =>
        J1 (λk70=>Mif t166_2 true (Mpu (fld 1 t21) λt167=>Mpu (ldN 4 h69 t167) λt168=>Mpu (fld 1 t18) λt169=>Mpu (ldN 4 h69 t169) λt170=>Mpu (zAB (eqK prg zAO) .eql t168 t170) λt171=>k70 t171 h69) (k70 undef h69)) λt171_2 h71 =>
        J1 (λk72=>Mif t19_2 false (Mpu (zBD t166_2 t171_2 (.bool false)) λt172=>k72 t172 h71) (k72 undef h71)) λt173_2 h73 =>
        J1 (λk74=>Mif t173_2 true (Mpu (ldN 8 h73 t21) λt174=>Mpu (ldN 8 h73 t18) λt175=>zAX prg zDg [t174,t175] h73 λt176 h75=>Mpu (unV .not t176) λt177=>k74 t177 h75) (k74 undef h73)) λt177_2 h76 =>
        J1 (λk77=>Mif t19_2 false (Mpu (zBD t173_2 t177_2 (.bool false)) λt178=>k77 t178 h76) (k77 undef h76)) λt178_2 h78 =>
        Mpu (zBD t19_2 (.bool true) t178_2) λt179=>Mpu (zAB .no .add t155_2 (.int .i64 1)) λt180=>k64 t179 t180 h78) (
        k62 t19_2 t155_2 h65)) (.bool false) (.int .i64 0) h61) λt19_4 _ h63 =>
      Mpu (unV .not t19_4) λt182=>Mcd t182 (
       Mpu (ldN 8 h63 t18) λt184=>zD2 h63 zAe 1 (zF6 prg zAe 1 [(0,t184)]) λt185 h79=>zIw zAe 8 128 h79 t13_3 t185 λt186 h80=>k50 t186 (.bool true) t136_2 t143_2 t151_2 h80) (
       k50 t13_3 t16_2 t136_2 t143_2 t151_2 h63)) (
      k50 t13_3 t16_2 t136_2 t143_2 t151_2 h61)) λt13_5 t16_4 _ _ _ h51 =>
    Mpu (zAB .no .add t125_2 (.int .i64 1)) λt187=>k48 t13_5 t16_4 t187 h51) (
    k42 t13_3 t16_2 t125_2 h49)) w (.bool false) (.int .i64 0) h47) λt13_6 t16_5 t125_4 h43=>REST t13_6 t16_5 t125_4 h43:=by
 have lq:=ax.lt
 have g00:=k00.1
 have hg:∀ b,P b\/F b->b<H.size:=λb hb=>by have:=hPl b hb;omega
 refine J3_i (λw' u _ h=>∃ o F',u = .bool (Option.isSome o)/\(mv++zGU out).find? (λy=>zAhv (zCi mv) x y.1)=o/\BufE 8 F' h w' ((gv++o.toList).map mvC)/\(∀ b,F' b->H0.size<=b/\b<h.size)/\Keep No H0 h) (λk42 hk42=>?_) λw' u z h hI=>?_
 rotate_left
 ·obtain⟨o,F',rfl,e,hb,hF',hk⟩:=hI
  exact hr o _ z _ F' e hb hF' hk
 refine zAmD λh44 b44 k44=>?_
 have g44:=k44.1
 refine b44.app (hp.keep k44 λ_ _=>id).h (by omega) (by simp;omega) (show H.size<=h44.size from g44) λt120 h45 b45 k45=>?_
 have k045:Keep No H h45:=k44.fresh k45 λb hb=>hb
 have g45:=k045.1
 refine zAI (zSk (ha.keep k045 λ_ _=>id) (by omega)) ?_
 rintro t122 h46 ⟨b46,k46⟩
 have g46:=k46.1
 refine(b45.keep k46 λ_ _=>id).app b46.sl (by omega) (by simp;omega) (show H.size<=h46.size by omega) λt123 h47 b47 k47=>?_
 have k047:Keep No H h47:=(k045.trans k46).fresh k47 λb hb=>hb
 have g47:=k047.1
 have hsmall:∀ y∈mv++zGU out,zPb y/\zLd (λb=>P b\/F b) h47 y.1 y.2.1 y.2.2.1 y.2.2.2:=λy hy=>by
  rcases zAp.1 hy with hy|hy
  ·exact⟨sm y hy,((hp.m y hy).keep k047 λ_ _=>id).mono λ_ => .inl⟩
  ·obtain⟨z,hz,rfl⟩:=zAo.1 hy
   exact⟨so z.1 hy,((ha.m z hz).m.keep k047 λ_ _=>id).mono λ_ => .inr⟩
 have bA:SlE 8 (λb=>H.size<=b/\b<h47.size) h47 t123 ((mv++zGU out).map mvC):=by
  rw[zAY,<- zAF]at b47
  exact(BufE.re b47 λb hb hF=>(⟨hF,hb⟩:H.size<=b/\b<h47.size)).sl
 have Al:(mv++zGU out).length<=18:=by rw[zAt,zAd];omega
 generalize hA:mv++zGU out=A at *
 have lA:=bA.len
 rw[zAd]at lA
 let fb:MV->Bool:=λy=>zAhv (zCi mv) x y.1
 let S:zA1:=λb=>H0.size<=b/\(b<q1\/h47.size<=b)
 let St:Nat->Value->zAm:=λj w' u h=>u = .bool ((A.take j).find? fb).isSome/\(∃ F',BufE 8 F' h w' ((gv++((A.take j).find? fb).toList).map mvC)/\∀ b,F' b->S b/\b<h.size)/\Keep S h47 h
 refine zBP lA (zAlK (λw' u z h=>∃ j:Nat,j<=A.length/\z = .int .i64 (j:Nat)/\St j w' u h) (λ_ _ z _=>match z with | .int _ t=>A.length-t.toNat|_=>0) ⟨0,zAz _,rfl,rfl,⟨Fw,by
  have:=hw.keep k047 λ_ _=>id
  simpa using this,λb hb=>by have:=hFw b hb;exact⟨⟨this.1,.inl this.2⟩,by omega⟩⟩,Keep.refl⟩ ?_)
 rintro w' _ _ h ⟨j,hj,rfl,rfl,⟨F',hb,hF'⟩,kh⟩ k48 hk48
 have k0h:Keep No H0 h:=(k00.trans k047).fresh kh λb hb=>hb.1
 have kHh:Keep S H h:=(k047.mono λ_ _ h=>h.elim).trans kh
 have nS:∀ b,P b\/F b->¬ S b:=λb hb hs=>by have:=hPl b hb;have:=hs.1;omega
 have nQ:¬ S q1:=λhs=>by rcases hs.2 with h|h<;>omega
 have gh:=kh.1
 rw[zNZ,zAa,zAl]
 by_cases hlt:j<A.length
 rotate_left
 ·rw[if_neg (by simpa using hlt)]
  obtain rfl:j=A.length:=by omega
  rw[zBE]at hb ⊢
  exact hk42 _ _ _ _ ⟨_,F',rfl,rfl,hb,λb hb=>⟨(hF' b hb).1.1,(hF' b hb).2⟩,k0h⟩
 rw[if_pos (by simpa using hlt)]
 obtain⟨y,hy,hym⟩:=zPs hlt
 obtain⟨sy,hmy0⟩:=hsmall y hym
 have hmy:=hmy0.keep kh nS
 have wy:=hmy.wf
 unfold zPb at sy
 have est:=zAeq (p:=fb) hy
 generalize hro:(A.take j).find? fb=ro at *
 refine zAnG (λw' u h'=>St (j+1) w' u h') (λk50 hk50=>?_) λw' u _ _ _ h' hI=>zLC hlt (by omega) (hk48 _ _ _ _ ⟨j+1,by omega,rfl,hI⟩ (by show A.length-(j+1)<A.length-j;omega))
 refine zAex (bA.keep kh λb hb hs=>by rcases hs.2 with h|h<;>omega) (zIl hy) zL8 (zBB zOr) λh53 a53 k53=>?_
 have a53':At h53 h.size (zGN y.1 y.2.1 y.2.2.1 y.2.2.2):=a53
 have skip:∀ a b c h',Keep No h53 h'->(A.take (j+1)).find? fb=ro->k50 w' (.bool ro.isSome) a b c h':=λa b c h' k e=>by
  have kk:=k53.trans k
  have gk:=kk.1
  exact hk50 _ _ _ _ _ _ ⟨by rw[e],⟨F',by rw[e];exact hb.keep kk λ_ _=>id,λb hb=>⟨(hF' b hb).1,by have:=(hF' b hb).2;omega⟩⟩,kh.trans (kk.mono λ_ _ h=>h.elim)⟩
 have no:fb y=false->(A.take (j+1)).find? fb=ro:=λe=>by rw[est,e];simp
 have a53x:At h53 q1 (zFi x):=(ax.keep kHh nQ).keep k53 id
 have k053:=k0h.trans k53
 have fby:fb y=(decide (y.1.name=x.name)&&decide (y.1.ver=x.ver)&&decide (zAbe (0::zYi y.1)=x.sum) && !zS7 (zCi mv) y.1):=by
  show(decide (zOs y.1=x) && !zS7 (zCi mv) y.1)=_
  congr 1
  obtain⟨n,vv,s⟩:=x
  unfold zOs
  rw[zAR]
  simp[and_assoc]
 refine zBP rfl (zLZ (λq=>?_) λq=>zLZ nofun λ_=>zLZ nofun λ_=>zNX rfl (skip _ _ _ _ Keep.refl ?_))
 rotate_left
 ·cases ro with
  | none=>cases q
  | some z=>rw[est];rfl
 obtain rfl:ro=none:=by
  cases ro with
  | none=>rfl
  | some z=>cases q
 refine zBP zBf (zBP (zDz a53') (zBP zBf (zBP (a53x.ld (i:=0) rfl) (zBP zDV (zLZ (λq1=>?_) λq1=>zLZ nofun λ_=>zNX rfl (skip _ _ _ _ Keep.refl (no (by rw[fby,q1];rfl))))))))
 refine zBP zBf (zBP (zHu a53' wy) (zBP zBf (zBP (zAle a53x wx) (zBP (zAbk wy.ver wx.ver) (zLZ (λq2=>?_) λq2=>zNX rfl (skip _ _ _ _ Keep.refl (no (by rw[fby,q1,q2];rfl))))))))
 refine zBP (a53.ldN (zBB wy)) (zBP zBf (zBP (zAep a53x wx) ?_))
 have kN53:∀ h',Keep No h53 h'->zWz h'/\zRs h':=λh' k=>⟨hT.keep (k053.trans k) λ_ h=>h.elim,hS.keep (k053.trans k) λ_ h=>h.elim⟩
 have hPh:∀ b,P b\/F b->b<h53.size:=λb hb=>by have:=hg b hb;have:=k53.1;omega
 refine zAI (zUO (hmy.keep k53 λ_ _=>id) hPh (by omega) (by omega) (kN53 _ Keep.refl).1.ops (kN53 _ Keep.refl).1.pow) ?_
 rintro t147 h59 ⟨b59,k59⟩
 rw[zAi,zAep (a53x.keep k59 id) wx,zBp,zA8]
 have hll:=zSj wy.files λhm=>zTO wy hm (by omega) (by omega)
 refine zAI (zUL b59 (kN53 _ k59).2 (λb hb=>hb.2) (by omega)) ?_
 rintro _ h60 ⟨rfl,k60⟩
 have k5360:=k59.trans k60
 rw[zAep (a53x.keep k5360 id) wx,zBp,zA8]
 refine zBP (zAid zFa wx.sum) (zRn (λq3=>?_) λq3=>skip _ _ _ _ k5360 (no (by rw[fby,q3,zBG];rfl)))
 have kH60:Keep S H h60:=kHh.trans ((k53.trans k5360).mono λ_ _ h=>h.elim)
 refine zAlf (hp.keep kH60 λb hb=>nS b (.inl hb)) (((hmy.keep k53 λ_ _=>id).keep k5360 λ_ _=>id)) (a53.keep k5360 id) (by omega) (λz hz=>by have:=sm z hz;unfold zPb at this;omega) (by omega) (by omega) λh63 k63=>?_
 refine zBP rfl (zRn (λq4=>?_) λq4=>skip _ _ _ _ (k5360.trans k63) (no (by rw[fby,q1,q2,q3];simpa using q4)))
 have k5363:=k5360.trans k63
 have kh63:=k53.trans k5363
 have g63:=kh63.1
 refine zBP ((a53.keep k5363 id).ldN (zBB wy)) ?_
 rw[Option.toList_none,zAP]at hb
 refine zAd2 (hb.keep kh63 λ_ _=>id) (zNY (zBB wy)) (zBB wy) (zFP (x:=y) ((hmy.keep kh63 λ_ _=>id))) (by omega) (by rw[zAd];omega) λu h80 bu k80=>?_
 have g80:=k80.1
 have ey:(A.take (j+1)).find? fb=some y:=by
  rw[est,fby,q1,q2,q3]
  simpa using q4
 refine hk50 _ _ _ _ _ _ ⟨by rw[ey];rfl,⟨λb=>F' b\/(h63.size<=b/\b<h80.size),by
  rw[ey,Option.toList_some,zAF];exact bu,λb hb=>?_⟩,?_⟩
 ·rcases hb with hb|hb
  ·exact⟨(hF' b hb).1,by have:=(hF' b hb).2;omega⟩
  ·exact⟨⟨by omega,.inr (by omega)⟩,hb.2⟩
 ·have kk:Keep S h h63:=kh63.mono λ_ _ h=>h.elim
  refine(kh.trans kk).trans (k80.mono λb _ hb=>?_)
  rcases hb with hb|hb
  ·exact(hF' b hb).1
  ·exact⟨by omega,.inr (by omega)⟩
set_option maxHeartbeats 4000000 in
theorem zZB {P Q R:zA1}{H:zAx}{v vp vt:Value}{mv:List MV}{pv:List PW}{to:List Item}(hi:zS5 P H v mv)(hp:zRp Q H vp pv)(ht:SlE 37 R H vt (to.map zFi))(wt:∀ x∈to,x.wf)(hP:∀ b,P b\/Q b\/R b->b<H.size)(hl:pv.length<=1048576)(hT:zWz H)(hS:zRs H)(hNG:NG<=H.size) :
  zAA prg zIz [v,vp,vt] H λu H'=>u = .bool true/\Keep No H H':=by
 apply zKk
 unfold zIe
 have TT:∀ h',Keep No H h'->zWz h'/\zRs h':=λh' k=>⟨hT.keep k λ_ h=>h.elim,hS.keep k λ_ h=>h.elim⟩
 have aw:∀ h,Keep No H h->zAX prg zCX [] h λt h'=>t = .bool true/\Keep No H h':=λh k=>by
  refine zAI (zAeb (TT _ k).1 (TT _ k).2) ?_
  rintro _ h' ⟨rfl,k'⟩
  exact⟨rfl,k.trans k'⟩
 have lt:lenV vt=some (.int .i64 (to.length:Nat)):=by have:=ht.len;rwa [zAd]at this
 refine zAI (zYj (most:=8) hi) ?_
 rintro _ h1 ⟨⟨b1,rfl,hb1⟩,k1⟩
 refine zBP rfl (zWO (λ_=>zWO (λ_=>zNn rfl (aw _ k1)) nofun) λq1=>?_)
 obtain⟨s1,s2⟩:=hb1 (by simpa using q1)
 refine zAI (zSk (hp.keep k1 λ_ _=>id) hl) ?_
 rintro t27 h3 ⟨b3,k3⟩
 refine zAI (zYj (most:=10) ((hp.keep k1 λ_ _=>id).mans k3 b3)) ?_
 rintro _ h5 ⟨⟨b2,rfl,hb2⟩,k5⟩
 have k05:=(k1.trans k3).trans k5
 refine zBP rfl (zWO (λ_=>zNn rfl (aw _ k05)) λq2=>?_)
 obtain⟨s3,s4⟩:=hb2 (by simpa using q2)
 rw[zAd]at s4
 have b10:∀ n:Nat,zAB .no .gtr (.int .i64 (n:Nat)) (.int .i64 10)=some (.bool (decide (n > 10))):=λn=>zAeh (m:=10)
 have b50:∀ n:Nat,zAB .no .gtr (.int .i64 (n:Nat)) (.int .i64 50)=some (.bool (decide (n > 50))):=λn=>zAeh (m:=50)
 refine zBP lt (zBP (b10 _) (zRn (λ_=>aw _ k05) λq3=>?_))
 have htl:to.length<=10:=by have:=of_decide_eq_false q3;omega
 have hPh:∀ h,Keep No H h->∀ b,P b\/Q b\/R b->b<h.size:=λh k b hb=>zAM (hP b hb) k.1
 refine zAI (zAge (hp.keep k05 λ_ _=>id) s3 (λb hb=>hPh _ k05 b (.inr (.inl hb))) (by omega) (TT _ k05).1 (TT _ k05).2 (by have:=k05.1;omega)) ?_
 rintro _ h9 ⟨⟨R',F,p,wa,out,rfl,hu,ho⟩,k9⟩
 have k09:=k05.trans k9
 have pn:zAB .ptr .eql (Ptr p 0) (.pointer none)=some (.bool false):=rfl
 refine zBP rfl (zBP rfl (zBP pn (zNX rfl ?_)))
 have hll:(zQb (pv.map zJg)).length<=10:=by have:=zAaU (l:=pv.map zJg);rw[zAd]at this;omega
 have hol:out.length<=10:=by have:=congrArg List.length hu.e;rw[zAd]at this;omega
 have hlok:∀ y∈zQb (pv.map zJg),zTL y=true:=zAgd
 have hkey:zAhu (zQb (pv.map zJg)):=zAeo
 have so:zP8 (zGU out):=λx hx=>by
  obtain⟨y,hy,rfl⟩:=zAo.1 hx
  exact s3 _ (zAo.2 ⟨y,ho y hy,rfl⟩)
 have hoP:∀ x∈out,zTy Q H x:=λx hx=>hp.m x (ho x hx)
 have hue:=hu.e
 generalize zQb (pv.map zJg)=l at *
 refine zMk (λt9 _ h=>t9 = .bool (zOW to)/\Keep No h9 h) (λk10 hk10=>?_) ?_
 ·refine zBP lt (zWP (λi t9 h=>t9 = .bool ((List.range i).all (upI to))/\Keep No h9 h) ⟨rfl,Keep.refl⟩ (λt9 h hI=>hk10 _ _ _ hI) ?_)
  rintro i _ h hi' ⟨rfl,kh⟩ k12 hk12
  obtain⟨y,hy,hym⟩:=zPs hi'
  have wy:=wt y hym
  have k0h:=k09.trans kh
  obtain⟨b,o,hix,hpy,_⟩:=(ht.keep k0h λ_ _=>id).at (zIl (f:=zFi) hy)
  refine zBP (hix .i64) (zBP zBf (zBP (hpy.cell (i:=0) rfl) (zBP zFu (zBP (b50 _) (zWO (λ_=>zNn rfl (aw _ k0h)) λ_=>?_)))))
  have hp4:ld1 h (Ptr b (o+1+3))=some (str y.ver.pre):=by
   have:=hpy.cell (zAld wy)
   rwa [show o+4=o+1+3 by omega]at this
  refine zBP (hix .i64) (zBP zBf (zBP zBf (zBP hp4 (zBP zFu (zBP (b50 _) (zRn (λ_=>aw _ k0h) λ_=>?_))))))
  have nxt:∀ c,upI to i=c->Mpu (zAB .no .add (.int .i64 (i:Nat)) (.int .i64 1)) λt86=>k12 (.bool ((List.range i).all (upI to)&&c)) t86 h:=λc e=>zLC hi' (by omega) (hk12 _ _ ⟨by rw[zAjq,e],kh⟩)
  have g0:zAB .no .eql (.int .i64 (i:Nat)) (.int .i64 0)=some (.bool (decide (i=0))):=by
   rw[eqI];congr 2;exact decide_eq_decide.2 (by omega)
  cases hr:(List.range i).all (upI to)
  ·rw[hr]at nxt
   refine zId (by decide) (zBT.2 (zAU.2 (zId (by decide) (zAa.2 ?_))))
   exact nxt _ rfl
  ·rw[hr]at nxt
   refine zDo rfl (zBP g0 ?_)
   by_cases e:i=0
   ·rw[decide_eq_true e]
    refine zId (by decide) (zDo rfl (zAa.2 (zAa.2 ?_)))
    exact nxt true (by unfold upI;rw[decide_eq_true e,Bool.true_or])
   ·rw[decide_eq_false e]
    obtain⟨x,hx,_⟩:=zPs (l:=to) (i:=i-1) (by omega)
    obtain⟨b',o',hix',hpx,_⟩:=(ht.keep k0h λ_ _=>id).at (zIl (f:=zFi) hx)
    refine zDo rfl (zBP (zAla (by omega) (by omega)) (zBP (hix' .i64) (zBP zBf (zBP (hpx.cell (i:=0) rfl) (zBP (hix .i64) (zBP zBf (zBP (hpy.cell (i:=0) rfl) (zBP zAnH (zDo rfl (zAa.2 (zAa.2 ?_)))))))))))
    exact nxt (decide (zJH x.name y.name<0)) (by unfold upI;rw[zAgm hx,zAgm hy,decide_eq_false e,zCs])
 rintro _ _ h11 ⟨rfl,k11⟩
 have k011:=k09.trans k11
 have hu:=hu.keep k11
 refine zAI (zAlb ((hi.to s1).keep k011 λ_ _=>id) hu.q (λb hb=>hPh _ k011 b (.inl hb)) (ht.keep k011 λ_ _=>id) wt (by omega) (by omega) (by omega) (TT _ k011).1 (TT _ k011).2 (by have:=k011.1;omega)) ?_
 rintro u h23 ⟨hm,k23⟩
 obtain⟨kd,d,s,t,e,rfl,⟨o1,o2,o3⟩,hc⟩:=zAlc hm
 have k023:=k011.trans k23
 refine zBP rfl (zBP rfl ?_)
 refine zAkT (z:=chC 0 zCn zCn zCn) (c:=chC kd d s t) zSf rfl rfl (zOV o1 o2 o3) λh25 a25 k25=>?_
 have M:zAaV P R H h25 v vt mv to l kd d s t e h11 h23 h23.size:=⟨k023.trans k25,k25,(hi.to s1).keep (k023.trans k25) λ_ _=>id,ht.keep (k023.trans k25) λ_ _=>id,a25,hc⟩
 have ha:zRp (λb=>Q b\/F b) h25 wa out:=by
  have ku:=(hu.keep k23).keep k25
  exact⟨ku.b.sl.mono λ_ => .inr,λx hx=>((hoP x hx).mono λ_ => .inl).keep M.k λ_ _=>id,by omega⟩
 have hFl:∀ b,F b->b<h25.size:=λb hb=>(((hu.keep k23).keep k25).fb b hb).2.1
 have l0:lenV zCn=some (.int .i64 0):=rfl
 have e00:zAB .no .eql (.int .i64 0) (.int .i64 0)=some (.bool true):=rfl
 have tell:∀ (f:Int) (h:zAx),Keep No h25 h->t=zCn->e=f->Mpu (zAB .no .eql (.int .i64 e) (.int .i64 f)) λt102 =>
   J1 (λk29=>Mif t102 true (Mpu (fld 3 (Ptr h23.size 0)) λt104=>Mpu (ld1 h t104) λt105=>Mpu (lenV t105) λt106=>Mpu (zAB .no .eql t106 (.int .i64 0)) λt107=>k29 t107 h) (k29 undef h)) λt107_2 h30 =>
   Mpu (zBD t102 t107_2 (.bool false)) λt108 =>
   J1 (λk31=>Mif t108 true (zAX prg zCX [] h30 λt110 h32=>k31 t110 h32) (k31 undef h30)) λt110_2 h33 =>
   Mpu (zBD t108 t110_2 (.bool false)) λt111=>t111 = .bool true/\Keep No H h33:=λf h k et ee=>by
  subst ee
  have c:=(M.keep k).c
  rw[et]at c
  refine zBP eqI (zLZ (λ_=>?_) λq=>absurd q (by simp))
  refine zBP zBf (zBP (c.ld (i:=3) rfl) (zBP l0 (zBP e00 (zLZ (λ_=>?_) nofun))))
  exact aw _ (M.keep k).k
 have il:mv.length<=8:=s2
 refine zBP rfl (zWO (λq=>zNn rfl ?_) λq=>?_)
 ·have q:(!zOW to)=true:=q
  obtain⟨et,ee⟩:=hc.form (by simp at q;rw[q];rfl)
  exact tell 10 h25 Keep.refl et ee
 have q:(!zOW to)=false:=q
 refine zAI (zUR M.i (λb hb=>hPh _ M.k b (.inl hb)) (by omega) (TT _ M.k).1 (TT _ M.k).2) ?_
 rintro _ h28 ⟨rfl,k28⟩
 have M28:=M.keep k28
 refine zBP rfl (zRn (λq2=>?_) λq2=>?_)
 ·have q2:(!zC0 (zCi mv))=true:=q2
  obtain⟨et,ee⟩:=hc.form (by simp at q2;rw[q2,zBG])
  exact tell 10 h28 k28 et ee
 have q2:(!zC0 (zCi mv))=false:=q2
 have hri:zC0 (zCi mv)=true:=by simpa using q2
 have good:(zOW to&&zC0 (zCi mv))=true:=by rw[hri,Bool.and_true];simpa using q
 have k028:=M28.k
 have g28:=k28.1
 have hPQ:∀ b,P b\/(Q b\/F b)->b<h28.size:=λb hb=>by
  rcases hb with hb|hb|hb
  ·exact hPh _ k028 b (.inl hb)
  ·exact hPh _ k028 b (.inr (.inl hb))
  ·have:=hFl b hb;omega
 have hmem:∀ h,Keep No h28 h->∀ y∈mv++zGU out,zLd (λb=>P b\/(Q b\/F b)) h y.1 y.2.1 y.2.2.1 y.2.2.2/\y.1.deps.length<=1000/\y.1.conf.length<=1000:=λh k y hy=>by
  rcases zAp.1 hy with hy|hy
  ·have:=s1 y hy
   unfold zPb at this
   exact⟨((M28.keep k).i.m y hy).mono λ_ => .inl,by omega,by omega⟩
  ·have:=so y hy
   unfold zPb at this
   obtain⟨z,hz,rfl⟩:=zAo.1 hy
   exact⟨((ha.m z hz).m.keep (k28.trans k) λ_ _=>id).mono λ_ => .inr,by omega,by omega⟩
 have hvA:zCi (mv++zGU out)=zCi mv++l.map (·.1):=by
  rw[<- hue]
  unfold zCi
  rw[zAF,List.map_map,List.map_map];rfl
 let I:Nat->zAm:=λi w h=>∃ gv F',GoB (zDN (zCi mv) l) (to.take i) (zCi gv)/\BufE 8 F' h w (gv.map mvC)/\(∀ b,F' b->h28.size<=b/\b<h.size)/\(∀ y∈gv,y∈mv++zGU out)/\Keep No h28 h
 refine zMk (λw _ h=>I to.length w h) (λk34 hk34=>?_) ?_
 ·obtain⟨zI,hzI,hzl⟩:=zAcQ
  refine zBP lt (zWP I ⟨[],No,.nil,BufE.nil,λb hb=>hb.elim,λy hy=>(by cases hy),Keep.refl⟩ (λw h hI=>hk34 _ _ _ hI) ?_)
  rintro i w h hi' ⟨gv,F',hgo,hb,hF',hgm,kh⟩ k36 hk36
  obtain⟨x,hx,hxm⟩:=zPs hi'
  have wx:=wt x hxm
  have gl:gv.length<=10:=by
   have:=hgo.len
   rw[zAd,zA4]at this;omega
  refine J3_i (λw' _ _ h'=>I (i+1) w' h') (λk38 hk38=>?_) λw' _ _ h' hI=>zLC hi' (by omega) (hk36 _ _ hI)
  refine zAex (M28.keep kh).y (zIl hx) hzI hzl λh41 a41 k41=>?_
  have kk:=kh.trans k41
  have Mk:=M28.keep kk
  have gk:=kh.1
  refine zAlg (P:=P) (F:=λb=>Q b\/F b) (H0:=h28) (gv:=gv) Mk.i (ha.keep (k28.trans kk) λ_ _=>id) hPQ so s1 il hol wx a41 (hb.keep k41 λ_ _=>id) (λb hb=>hF' b hb) (by omega) (TT _ k028).1 (TT _ k028).2 kk λo w' z h43 F2 ho2 hb2 hF2 k2843=>?_
  have hpk:zSn (zDN (zCi mv) l) x=o.map λy=>y.1:=by
   rw[<- zAbP hri]
   unfold zZA
   rw[<- hvA,<- ho2]
   unfold zCi
   rw[zSd]
  cases o with
  | none =>
   refine zBP rfl (zNn rfl ?_)
   obtain⟨et,ee⟩:=hc.none good ⟨x,hxm,hpk⟩
   exact tell 14 h43 (k28.trans k2843) et ee
  | some y =>
   refine zBP rfl (zNX rfl (hk38 _ _ _ _ ⟨gv++[y],F2,?_,hb2,hF2,λz hz=>?_,k2843⟩))
   ·show GoB _ _ (List.map _ (gv++[y]))
    rw[zAG,hx,zAF]
    exact .snoc hgo hpk
   ·rcases zAp.1 hz with hz|hz
    ·exact hgm z hz
    ·rw[zAD.1 hz]
     exact zCE ho2
 rintro w _ h35 ⟨gv,F',hgo,hb,hF',hgm,k2835⟩
 rw[zBE]at hgo
 have gl:gv.length<=10:=by
  have:=hgo.len
  rw[zAd]at this;omega
 have M35:=M28.keep k2835
 have g35:=k2835.1
 have hG:zLB (λb=>b<h35.size) h35 w gv:=⟨hb.sl.mono λb hb=>(hF' b hb).2,λy hy=>((hmem _ k2835 y (hgm y hy)).1).mono λb hb=>by have:=hPQ b hb;omega,λy hy=>(hmem _ k2835 y (hgm y hy)).2⟩
 refine zAI (zUR hG (λb hb=>hb) (by omega) (TT _ M35.k).1 (TT _ M35.k).2) ?_
 rintro _ h86 ⟨rfl,k86⟩
 have M86:=M35.keep k86
 refine zBP rfl (zRn (λq3=>?_) λq3=>?_)
 ·have hr:zC0 (zCi gv)=false:=by have q3:(!zC0 (zCi gv))=true:=q3;simpa using q3
  have ee:=hc.clash good hgo hr
  subst ee
  refine zBP eqI (zLZ (λ_=>?_) λq=>absurd q (by simp))
  exact aw _ M86.k
 have hr:zC0 (zCi gv)=true:=by have q3:(!zC0 (zCi gv))=false:=q3;simpa using q3
 obtain⟨rfl,rfl,n0,zz,col,dr,ad,af,hzz,hci,hdr,had,haf⟩:=hc.ok good hgo hr
 have k2386:Keep No h23 h86:=M86.mh
 have hgs:=hgo.mem
 obtain⟨hk1,hk2⟩:=zAgp hri hkey hgs
 have hsz:∀ m∈zCi gv,m.deps.length<=1000/\m.conf.length<=1000:=λm hm=>by
  obtain⟨x,hx,rfl⟩:=zAo.1 hm
  exact hG.sm x hx
 have wg:∀ m∈zCi gv,m.wf:=λm hm=>by
  obtain⟨x,hx,rfl⟩:=zAo.1 hm
  exact(hG.m x hx).wf
 have wi:∀ m∈zCi mv,m.wf:=λm hm=>by
  obtain⟨x,hx,rfl⟩:=zAo.1 hm
  exact(hi.m x hx).wf
 have hafl:af.length=gv.length:=by have:=congrArg List.length haf;rwa [zAd,zAd]at this
 have hA:zLB (λb=>b<h23.size) h86 t af:=⟨(hci.bt.sl.keep k2386 λ_ _=>id).mono λb hb=>hb.2.2,λx hx=>((hci.mt x hx).keep k2386 λ_ _=>id).mono λb hb=>hb.2.2,λx hx=>hsz x.1 (by rw[<- haf];exact zAo.2 ⟨x,hx,rfl⟩)⟩
 have hD:zLB (λb=>b<h23.size) h86 d dr:=⟨(hci.bd.sl.keep k2386 λ_ _=>id).mono λb hb=>hb.2.2,λx hx=>((hci.md x hx).keep k2386 λ_ _=>id).mono λb hb=>hb.2.2,λx hx=>by
  have hm:x.1∈zCi dr:=zAo.2 ⟨x,hx,rfl⟩
  rw[hdr]at hm
  obtain⟨y,hy,e⟩:=zAo.1 (zBd.1 hm).1
  have:=M86.i.sm y hy
  rwa [e]at this⟩
 have hdrl:dr.length<=8:=by
  have:=congrArg List.length hdr
  have h2:=zBi (λm=>!zG9 (zCi gv) m) (zCi mv)
  rw[zAd]at this h2
  omega
 have hadl:ad.length<=40:=by
  have:=congrArg List.length had
  have h2:=zBi (λm=>!zG9 (zCi mv) m) (zCi gv)
  rw[zAd,zAd]at this
  rw[zAd]at h2
  omega
 refine zBP eqI (zLZ (λ_=>?_) λq=>absurd q (by simp))
 refine zBP zBf (zBP (M86.c.ld (i:=0) rfl) (zBP eqI ?_))
 refine zLZ (λ_=>?_) λq=>absurd q (by simp)
 refine zBP zBf (zBP (M86.c.ld (i:=3) rfl) ?_)
 have g2386:=k2386.1
 have k086:=M86.k
 refine zAI (zNa hA (λb hb=>by omega) (by omega) (TT _ k086).1 (TT _ k086).2) ?_
 rintro t220 h93 ⟨b93,k93⟩
 have k093:=k086.trans k93
 have k3593:=k86.trans k93
 refine zAI (zNa (hG.keep k3593 λ_ _=>id) (λb hb=>zAM hb k3593.1) (by omega) (TT _ k093).1 (TT _ k093).2) ?_
 rintro t222 h94 ⟨b94,k94⟩
 have wl:∀ mv:List MV,∀ x∈zLD mv,x.2.2.length=32:=λmv x hx=>by
  obtain⟨y,_,rfl⟩:=zAo.1 hx
  exact zFa
 refine zAI (zWV (b93.sl.keep k94 λ_ _=>id) b94.sl (wl af) (wl gv) (by simp[zLD];omega)) ?_
 rintro _ _ ⟨rfl,rfl⟩
 have hits:zLD af=zLD gv:=by
  have e1:∀ l:List MV,zLD l=(zCi l).map itT:=λl=>by unfold zCi;rw[List.map_map];rfl
  rw[e1,e1,haf]
 have k8694:=k93.trans k94
 have M94:=M86.keep k8694
 have k094:=M94.k
 refine zLZ (λ_=>?_) λq=>absurd q (by rw[decide_eq_true hits];decide)
 refine zBP (M94.c.ldN (n:=4) rfl) ?_
 have hs9:=(hci.bs.sl.keep k2386 λ_ _=>id).keep k8694 λ_ _=>id
 refine zAI (zZx (Qd:=λb=>b<h23.size) (Qs:=λb=>b<h23.size) (Qt:=λb=>b<h23.size) M94.i (hD.keep k8694 λ_ _=>id) (hs9.mono λb hb=>hb.2.2) (λx hx=>(((hci.ms x hx).keep k2386 λ_ _=>id).keep k8694 λ_ _=>id).mono λb hb=>hb.2.2) (hA.keep k8694 λ_ _=>id) (λb hb=>by
  have g8694:=k8694.1
  rcases hb with hb|hb|hb|hb
  ·exact hPh _ k094 b (.inl hb)
  ·omega
  ·omega
  ·omega) (by omega) (by omega) (by omega) (by omega) (TT _ k094).1 (TT _ k094).2) ?_
 rintro _ h98 ⟨rfl,k98⟩
 have hcf:zNE (zCi mv) (zCi dr) (ad.map zJg) (zCi af)=true:=by
  rw[hdr,had,haf]
  exact zU7 hlok hri hr wi wg hk1 hk2
 rw[hcf]
 exact zLZ (λ_=>aw _ (k094.trans k98)) nofun
end Go.Proofs.YticdfkoncnnmmaaGreatDoor
