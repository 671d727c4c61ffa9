import Derived.Test.YticdfkoncnnmmaaGreatDoorHF
import Derived.Test.YticdfkoncnnmmaaGreatDoorG1
import Derived.Test.YticdfkoncnnmmaaGreatDoorHB
import Derived.Test.YticdfkoncnnmmaaGreatDoorHE
import Derived.Test.YticdfkoncnnmmaaGreatDoorGU
import Derived.Test.YticdfkoncnnmmaaGreatDoorH0
set_option linter.unusedSimpArgs false
set_option linter.unusedVariables false
set_option maxRecDepth 100000
namespace Go.Proofs.YticdfkoncnnmmaaGreatDoor
open Go.X Go.X.Diff
structure zTs (P:zA3)(H:zAw)(x:PW):Prop where
 m:zMx P H x.1.1 x.1.2.1 x.1.2.2.1 x.1.2.2.2
 f:BSS P P H x.2.1 x.2.2
theorem zTs.keep {P S:zA3}{H H':zAw}{x:PW}(h:zTs P H x)(k:Keep S H H')(hs:∀ b,P b->¬ S b):zTs P H' x:=⟨h.m.keep k hs,h.f.keep k hs hs⟩
structure zUD (P:zA3)(H:zAw)(v:Value)(pv:List PW):Prop where
 h:SlE 9 P H v (pv.map pvC)
 m:∀ x∈pv,zTs P H x
 hl:pv.length<=9223372036854775807
theorem zUD.keep {P S:zA3}{H H':zAw}{v:Value}{pv:List PW}(h:zUD P H v pv)(k:Keep S H H')(hs:∀ b,P b->¬ S b):zUD P H' v pv:=⟨h.h.keep k hs,λx hx=>(h.m x hx).keep k hs,h.hl⟩
theorem zUD.len {P:zA3}{H:zAw}{v:Value}{pv:List PW}(h:zUD P H v pv):zDp v=some (.int .i64 (pv.length:Nat)):=by have:=h.h.len;rwa [zAd]at this
structure zX9 where
 mv:List MV
 pv:List PW
 ask:zPB
def zHi (vi vp:Value)(a:zPB):List Value:=vi::vp::zQ7 a
structure zAec (P:zA3)(H:zAw)(vi vp:Value)(z:zX9):Prop where
 i:zUB P H vi z.mv
 p:zUD P H vp z.pv
 a:z.ask.wf
end Go.Proofs.YticdfkoncnnmmaaGreatDoor
namespace Go.Proofs.YticdfkoncnnmmaaGreatDoor.Came
open Go.X
theorem zAaF {α:Type}{enc:α->List Value}{Q:α->Prop}:∀ {q:List (List Value)},(∀ x∈q,∃ a,Q a/\x=enc a)->∃ l:List α,q=l.map enc/\∀ a∈l,Q a
 | [],_=>⟨[],rfl,λy h=>by cases h⟩
 | x::q,h=>by
  obtain⟨ys,hy,hw⟩:=zAaF (q:=q) λx hx=>h x (by simp[hx])
  obtain⟨a,ya,rfl⟩:=h x (by simp)
  refine⟨a::ys,by rw[hy];rfl,λz hz=>?_⟩
  rcases zAq.1 hz with rfl|hz
  ·exact ya
  ·exact hw z hz
theorem zAkQ:prg.underlying zDI=some (.slice zAg):=by kernel_rfl
theorem zAhg:prg.underlying zHc=some (.slice zA6):=by kernel_rfl
theorem zAed {α:Type}{enc:α->List Value}{Q:World->α->Prop}{n:Nat}{TS T:TypeId}(hn:0<n)(hu:prg.underlying TS=some (.slice T))(hc:prg.cellsOf T=n)(hone:∀ w a,Q w a->∀ c∈enc a,c.oneCell'=true)(hof:∀ (w:World) (d:Nat) (cs:List Value),Shp prg w d T cs->∃ a,Q w a/\cs=enc a)
  {w:World} {d:Nat} {v:Value} (h:Shp prg w d TS [v]):∃ xs:List α,xs.length<=9223372036854775807/\SlE n (· < w.heap.size) w.heap v (xs.map enc)/\∀ x∈xs,Q w x:=by
 cases d with
 | zero=>exact h.elim
 | succ d =>
  simp only[Shp,hu]at h
  rcases h with h|⟨a,len,cap,hv,hle,hcap,hel⟩
  ·obtain rfl:v = .slice none 0 0:=by simpa using h
   exact⟨[],by simp,SlE.nil,λx h=>by cases h⟩
  ·obtain rfl:v = .slice (some a) len cap:=by simpa using hv
   rw[hc]at hel
   obtain⟨q,hq,hs,hqi⟩:=zLm (n:=n) (q:=λcs=>∃ a,Q w a/\cs=enc a) hn hle (λcs ⟨x,hx,e⟩ c hc=>by subst e;exact hone w x hx c hc) λi hi=>by
    obtain⟨cs',h1,h2⟩:=hel i hi
    exact⟨cs',h1,hof _ _ _ h2⟩
   obtain⟨xs,rfl,hw⟩:=zAaF hqi
   have hm:maxLen=9223372036854775807:=rfl
   rw[zAd]at hq
   exact⟨xs,by omega,hs,hw⟩
theorem zAkR {w:World}{d:Nat}{v:Value}(h:Shp prg w d zDI [v]):∃ mv:List MV,mv.length<=9223372036854775807/\zUB (· < w.heap.size) w.heap v mv:=by
 obtain⟨xs,h1,h2,h3⟩:=zAed (enc:=mvC) (Q:=λw x=>zMx (· < w.heap.size) w.heap x.1 x.2.1 x.2.2.1 x.2.2.2) (n:=8) (by omega) zAkQ zAc7 (λw a ha=>ha.one) (λw d cs hs=>by
  obtain⟨m,vd,vc,vf,hm,e⟩:=zAgO hs
  exact⟨(m,vd,vc,vf),hm,e⟩) h
 exact⟨xs,h1,h2,h3,h1⟩
theorem zAmh:zAbN zA6 [(0,zAg),(8,zMP)]=true:=by kernel_rfl
theorem zAhh:prg.cellsOf zA6=9:=by kernel_rfl
theorem zAi3:prg.cellsOf zMP=1:=by kernel_rfl
theorem zAkS {w:World}{d:Nat}{cs:List Value}(h:Shp prg w d zA6 cs):∃ x:PW,zTs (· < w.heap.size) w.heap x/\cs=pvC x:=by
 obtain⟨d',hl,hfl⟩:=zNL zAmh h
 rw[zAhh]at hl
 have h0:=hfl 0 0 zAg rfl
 have h1:=hfl 1 8 zMP rfl
 rw[zAc7]at h0;rw[zAi3]at h1
 obtain⟨m,vd,vc,vf,hm,e0⟩:=zAgO h0
 have e1:(cs.drop 8).take 1=[cs[8]'(by omega)]:=by
  rw[zBX (by omega)];rfl
 rw[e1]at h1
 obtain⟨xs,hxl,hx⟩:=zAkj h1
 refine⟨((m,vd,vc,vf),_,xs),⟨hm,hx⟩,?_⟩
 have e2:cs=(cs.drop 0).take 8++(cs.drop 8).take 1:=by
  rw[zCe,zAp (l:=cs.drop 8) (by simp;omega),zBx]
 rw[e0,e1]at e2
 exact e2
theorem zAkT {w:World}{d:Nat}{v:Value}(h:Shp prg w d zHc [v]):∃ pv:List PW,pv.length<=9223372036854775807/\zUD (· < w.heap.size) w.heap v pv:=by
 obtain⟨xs,h1,h2,h3⟩:=zAed (enc:=pvC) (Q:=λw x=>zTs (· < w.heap.size) w.heap x) (n:=9) (by omega) zAhg zAhh (λw a ha c hc=>by
  rcases zAs.1 hc with hc|hc
  ·exact zF4 (x:=a.1) ha.m c hc
  ·rw[zAM.1 hc];exact ha.f.sl.oneC) (λw d cs hs=>zAkS hs) h
 exact⟨xs,h1,h2,h3,h1⟩
end Go.Proofs.YticdfkoncnnmmaaGreatDoor.Came
namespace Go.Proofs.YticdfkoncnnmmaaGreatDoor
open Go.X Go.X.Diff Go.MapKept
theorem zVH {l:List Man}{ps:List (List UInt8)}{of:zTk}(h:zWN ps of l=0):(l.map (·.name)).Nodup/\∀ m∈l,m.name∉ps:=zAma h
def upB (hv:List Man)(i:Nat):Bool:=decide (i=0) || decide (zME (gM hv (i-1)).name (gM hv i).name<0)
def zRy (hv:List Man):Bool:=(List.range hv.length).all (upB hv)
theorem zQk {hv:List Man}{i:Nat}(h:i<hv.length):gM hv i=hv[i]:=by
 unfold gM;rw[zCw,zAj h];rfl
theorem zAmi {hv:List Man}{i:Nat}(h:i<hv.length):gM hv i∈hv:=by rw[zQk h];exact zAH h
theorem zWE {hv:List Man}(h:(hv.map (·.name)).Nodup){i j:Nat}(hi:i<hv.length)(hj:j<hv.length)(e:(gM hv i).name=(gM hv j).name):i=j:=by
 have hp:=zBN.1 (zBG.1 h)
 rw[zQk hi,zQk hj]at e
 rcases Nat.lt_trichotomy i j with c|c|c
 ·exact absurd e (hp i j hi hj c)
 ·exact c
 ·exact absurd e.symm (hp j i hj hi c)
theorem zUE {hv:List Man}:zDE hv=(decide (zWN [] [] hv=0)&&zRy hv):=by
 unfold zDE
 by_cases h0:zWN [] [] hv=0
 ·have hn:=(zVH h0).1
  rw[decide_eq_true h0,zBf,zBf]
  unfold zAiP zRy
  rw[zAW,zAy,zAy]
  refine forall_congr' λi=>forall_congr' λhi=>?_
  have hi':=zBQ.1 hi
  unfold zSX upB
  by_cases e:i=0
  ·simp[e]
  ·have ht:=zGi.turn (gM hv (i-1)).name (gM hv i).name
   have hne:zME (gM hv (i-1)).name (gM hv i).name≠0:=λhz=>by
    have:=zWE hn (by omega) hi' ((zGi.zero _ _).1 hz)
    omega
   simp only[decide_eq_false e,zCz,zBC,decide_eq_false_iff_not,decide_eq_true_eq]
   omega
 ·rw[decide_eq_false h0];rfl
theorem zTm {hv:List Man}(h:zDE hv=true):(hv.map (·.name)).Nodup:=by
 rw[zUE,zAk]at h
 exact(zVH (of_decide_eq_true h.1)).1
theorem zAbz {hv:List Man}(h:zDE hv=true){x y:Man}(hx:x∈hv)(hy:y∈hv)(e:x.name=y.name):x=y:=by
 obtain⟨i,hi,rfl⟩:=zBz hx
 obtain⟨j,hj,rfl⟩:=zBz hy
 have:=zWE (zTm h) hi hj (by rw[zQk hi,zQk hj];exact e)
 subst this;rfl
theorem zQG {hv:List Man}(h:zDE hv=true):∀ m∈hv,zEy m=true:=by
 rw[zUE,zAk]at h
 exact zZi (of_decide_eq_true h.1)
theorem zVI {m:Man}(h:zEy m=true):zG4 m.ver=true:=by
 unfold zEy zYV at h
 simp only[zAk]at h
 exact h.1.1.1.2
abbrev IT:=List UInt8×List UInt8×List UInt8
def itT (m:Man):IT:=(m.name,zHP m.ver,zAcG (0::zAby m))
def zFQ (a b:List IT):List IT:=a.filter λx=>!b.any λy=>decide (x=y)
theorem zAi4 {x y:Man}(wx:x.wf)(wy:y.wf)(hx:zEy x=true)(hy:zEy y=true)(h:itT x=itT y):x.name=y.name/\x.ver=y.ver:=by
 unfold itT at h
 simp only[Prod.mk.injEq]at h
 exact⟨h.1,zZ0 wx.ver.p3 wy.ver.p3 (zVI hx) (zVI hy) h.2.1⟩
theorem zYa {hv:List Man}{m:Man}:zIC hv m=true↔m∈hv:=by
 unfold zIC
 rw[zBK]
 constructor
 ·rintro⟨o,ho,e⟩;rw[zXY]at e;exact e ▸ ho
 ·exact λh=>⟨m,h,zXY.2 rfl⟩
theorem zAf3 {hv:List Man}{m:Man}:zIC hv m=false↔m∉hv:=by
 rw[<- zYa];simp
theorem zVJ {a b:List Man}(hk:∀ x∈a,∀ y∈b,x.name=y.name->x.ver=y.ver->x=y)(wa:∀ x∈a,x.wf)(wb:∀ x∈b,x.wf)(oa:∀ x∈a,zEy x=true)(ob:∀ x∈b,zEy x=true) :
  zFQ (a.map itT) (b.map itT)=(a.filter λm=>!zIC b m).map itT:=by
 unfold zFQ
 rw[List.filter_map]
 congr 1
 apply List.filter_congr
 intro m hm
 show(!(b.map itT).any λy=>decide (itT m=y)) = !zIC b m
 congr 1
 rw[zAW,zYa,zBK]
 constructor
 ·rintro⟨_,hz,e⟩
  obtain⟨y,hy,rfl⟩:=zAo.1 hz
  obtain⟨e1,e2⟩:=zAi4 (wa m hm) (wb y hy) (oa m hm) (ob y hy) (of_decide_eq_true e)
  rw[hk m hm y hy e1 e2];exact hy
 ·exact λh=>⟨itT m,zAo.2 ⟨m,h,rfl⟩,by simp⟩
def zNP (inst dr:List Man)(ad:List Pk)(af:List Man):Bool :=
 ad.all zUK&&zDE af&&decide (dr.map itT=zFQ (inst.map itT) (af.map itT))&&decide ((ad.map (·.1)).map itT=zFQ (af.map itT) (inst.map itT))
theorem zUY {inst goal:List Man}{l:List Pk}(hl:∀ x∈l,zUK x=true)(hi:zDE inst=true)(hg:zDE goal=true)(wi:∀ x∈inst,x.wf)(wg:∀ x∈goal,x.wf)
  (hk:∀ x∈inst,∀ y∈goal,x.name=y.name->x.ver=y.ver->x=y) (ha:∀ m∈goal,m∉inst->zKk l m∈l/\(zKk l m).1=m) :
  zNP inst (inst.filter λm=>!zIC goal m) ((goal.filter λm=>!zIC inst m).map (zKk l)) goal=true:=by
 have ha':∀ m∈goal.filter (λm=>!zIC inst m),zKk l m∈l/\(zKk l m).1=m:=λm hm=>by
  obtain⟨h1,h2⟩:=zA0.1 hm
  exact ha m h1 (zAf3.1 (by simpa using h2))
 unfold zNP
 simp only[zAk,decide_eq_true_eq,zAy]
 refine⟨⟨⟨λx hx=>?_,hg⟩,(zVJ hk wi wg (zQG hi) (zQG hg)).symm⟩,?_⟩
 ·obtain⟨m,hm,rfl⟩:=zAo.1 hx
  exact hl _ (ha' m hm).1
 ·have e:((goal.filter λm=>!zIC inst m).map (zKk l)).map (·.1)=goal.filter λm=>!zIC inst m:=by
   rw[List.map_map]
   exact(zBR λm hm=>(ha' m hm).2).trans (List.map_id' _)
  rw[e,zVJ (λx hx y hy e1 e2=>(hk y hy x hx e1.symm e2.symm).symm) wg wi (zQG hg) (zQG hi)]
def zAee (hv:List Man):Prop:=∀ x∈hv,∀ y∈hv,x.name=y.name->x.ver=y.ver->x=y
theorem zAef {hv:List Man}(h:(List.range hv.length).all (zPl hv)=true):zAee hv:=λx hx y hy e1 e2=>by
 obtain⟨i,hi,rfl⟩:=zBz hx
 obtain⟨j,hj,rfl⟩:=zBz hy
 have:=zAdv h hi hj (by rw[zQk hi,zQk hj];exact e1) (by rw[zQk hi,zQk hj];exact e2)
 subst this;rfl
theorem zAbA {inst:List Man}{l:List Pk}(hT:zAee (zE1 inst l)){m:Man}(hm:m∈zE1 inst l)(hn:m∉inst):zKk l m∈l/\(zKk l m).1=m:=by
 unfold zE1 at hm
 rcases zAs.1 hm with h|h
 ·exact absurd h hn
 obtain⟨h1,h2⟩:=zA0.1 h
 obtain⟨x,hx,rfl⟩:=zAo.1 h1
 unfold zKk
 cases hf:l.find? (zKJ x.1.name x.1.ver) with
 | none =>
  have:=zCx.1 hf x hx
  unfold zKJ at this
  simp at this
 | some y =>
  have hy:=List.mem_of_find?_eq_some hf
  have hs:=List.find?_some hf
  unfold zKJ at hs
  simp only[zAk,decide_eq_true_eq]at hs
  refine⟨hy,?_⟩
  show y.1=x.1
  refine hT y.1 (zAs.2 (.inr (zA0.2 ⟨zAo.2 ⟨y,hy,rfl⟩,?_⟩))) x.1 hm hs.1 hs.2
  unfold zUw at h2 ⊢
  rw[hs.1,hs.2];exact h2
theorem zVK {inst:List Man}{l:List Pk}{m:Man}(h:m∈inst):m∈zE1 inst l:=zAs.2 (.inl h)
def itC (x:IT):List Value:=[str x.1,str x.2.1]++zBD x.2.2
theorem zQl {x:IT}(h:x.2.2.length=32):(itC x).length=34:=by simp[itC,h]
theorem zZm {x:IT}:∀ c∈itC x,c.oneCell'=true:=λc hc=>by
 rcases zAs.1 hc with hc|hc
 ·simp at hc;rcases hc with rfl|rfl<;>rfl
 ·obtain⟨b,_,rfl⟩:=zAo.1 hc;rfl
def zIT:IT:=([],[],List.replicate 32 0)
theorem zAmW:zBE prg zBM=some (itC zIT).toArray:=by kernel_rfl
theorem zAmX {x y:IT}(hx:x.2.2.length=32)(hy:y.2.2.length=32):zAB (eqK prg zBM) .neq (.agg (itC x).toArray) (.agg (itC y).toArray)=some (.bool (!decide (x=y)))/\zAB (eqK prg zBM) .eql (.agg (itC x).toArray) (.agg (itC y).toArray)=some (.bool (decide (x=y))):=by
 have q:eqK prg zBM = .flat ([2]++([2]++List.replicate 32 0)):=by kernel_rfl
 have hs:zCI (List.replicate 32 0) (zBD x.2.2) (zBD y.2.2)=some (decide (x.2.2=y.2.2)):=by
  have:=zOM (l:=x.2.2) (m:=y.2.2) (by rw[hx,hy])
  rwa [hx]at this
 have h1:=zH6 (k1:=[2]) (a1:=[str x.2.1]) (b1:=[str y.2.1]) rfl rfl zJk hs
 have h2:=zH6 (k1:=[2]) (a1:=[str x.1]) (b1:=[str y.1]) rfl rfl zJk h1
 have he:zCI ([2]++([2]++List.replicate 32 0)) (itC x) (itC y)=some (decide (x=y)):=by
  show zCI ([2]++([2]++List.replicate 32 0)) ([str x.1]++([str x.2.1]++zBD x.2.2)) ([str y.1]++([str y.2.1]++zBD y.2.2))=_
  rw[h2]
  congr 1
  obtain⟨a,b,c⟩:=x
  obtain⟨a',b',c'⟩:=y
  rw[zAW]
  simp
 constructor
 ·rw[zMR,q]
  show(zCI ([2]++([2]++List.replicate 32 0)) (itC x).toArray.toList (itC y).toArray.toList).map (λb=>Value.bool (!b))=_
  rw[zBl,zBl,he];rfl
 ·rw[zRe,q]
  show(zCI ([2]++([2]++List.replicate 32 0)) (itC x).toArray.toList (itC y).toArray.toList).map Value.bool=_
  rw[zBl,zBl,he];rfl
theorem zAnn {a b s:List UInt8}(hs:s.length=32):zCE prg zBM [(0,str a),(1,str b),(2,bv s)]=some (.agg (itC (a,b,s)).toArray):=by
 have k:zMQ prg zBM=some ([(0,1),(1,1),(2,32)],(itC zIT).toArray):=by kernel_rfl
 have hz:(itC zIT).toArray.size=34:=by simp[itC,zIT]
 have c1:(str a).cells.size=1:=rfl
 have c2:(str b).cells.size=1:=rfl
 have c3:(bv s).cells.size=32:=by show(zBD s).toArray.size=32;simp[hs]
 have t1:(spl (itC zIT).toArray 0 (str a).cells).size=34:=by rw[zLi (by omega),hz]
 have t2:(spl (spl (itC zIT).toArray 0 (str a).cells) 1 (str b).cells).size=34:=by rw[zLi (by omega),t1]
 rw[zIJ k,zJo (off:=0) (n:=1) rfl rfl (by omega),zJo (off:=1) (n:=1) rfl rfl (by omega),zJo (off:=2) (n:=32) rfl c3 (by omega),zTZ]
 have hl:spl (spl (spl (itC zIT).toArray 0 (str a).cells) 1 (str b).cells) 2 (bv s).cells=(itC (a,b,s)).toArray:=by
  apply Array.ext'
  have e1:(spl (spl (itC zIT).toArray 0 (str a).cells) 1 (str b).cells).toList=[str a,str b]++zBD (List.replicate 32 0):=rfl
  have e3:(bv s).cells=(zBD s).toArray:=rfl
  unfold spl at e1 ⊢
  rw[e3]
  simp only[zCi]at e1 ⊢
  rw[e1]
  simp[hs,itC]
 rw[hl];rfl
theorem zAhi {x:IT}(h:x.2.2.length=32):zGj prg zBM 1 [(0,.agg (itC x).toArray)]=some (itC x).toArray :=
 zWd (by kernel_rfl:prg.cellsOf zBM=34) (by omega) (by omega) zAmW (by simp[itC,zIT]) (by simp[zQl h])
theorem zAf4 {P:zA3}{H:zAw}{x:MV}(hm:zMx P H x.1 x.2.1 x.2.2.1 x.2.2.2)(hsx:x.1.deps.length<=1000/\x.1.conf.length<=1000)(hP:∀ b,P b->b<H.size)(hT:zYl H)(hS:zTe H) :
  zAz prg zIu [.agg (mvC x).toArray] H λu H'=>u = .agg (itC (itT x.1)).toArray/\Keep No H H':=by
 apply zM4
 unfold zLw
 have w:=hm.wf
 simp only[zB3,zBb,zAmW,zBi,zAh,zAu,zAa]
 generalize hH1:H.push (.cells (mvC x).toArray zAg (0,0))=h1
 have k1:Keep No H h1:=by rw[<- hH1];exact Keep.push
 have a1:At h1 H.size (mvC x):=by rw[<- hH1];exact At.push
 have s1:h1.size=H.size+1:=by rw[<- hH1];simp
 generalize hH2:h1.push (.cells (itC zIT).toArray zBM (0,0))=h2
 have k2:Keep No h1 h2:=by rw[<- hH2];exact Keep.push
 have a2:At h2 h1.size (itC zIT):=by rw[<- hH2];exact At.push
 have k02:=k1.trans k2
 have a12:At h2 H.size (zGM x.1 x.2.1 x.2.2.1 x.2.2.2):=a1.keep k2 id
 rw[zDy a12,zAa,zJl a12 w,zAa,a12.ldN (zBH w),zAa]
 refine zAI (zWb w.ver (hT.keep k02 λ_ h=>h.elim).pow) ?_
 rintro _ h3 ⟨rfl,k3⟩
 have a13:=a12.keep k3 id
 have k03:=k02.trans k3
 have g03:=k03.1
 rw[a13.ldN (zBH w),zDy a13,zBm,zBm,zA8]
 refine zAI (zAd9 (hm.keep k03 λ_ _=>id) (λb hb=>by have:=hP b hb;omega) (by omega) (by omega) (hT.keep k03 λ_ h=>h.elim).ops (hT.keep k03 λ_ h=>h.elim).pow) ?_
 rintro t9 h4 ⟨sl,k4⟩
 have a14:=a13.keep k4 id
 rw[zDy a14,zBm,zA8]
 have hln:=zX7 w.files λh=>zAaE w h (by omega) (by omega)
 have k04:=k03.trans k4
 refine zAI (zAd5 sl (hS.keep k04 λ_ h=>h.elim) (λb hb=>hb.2) (by omega)) ?_
 rintro _ h5 ⟨rfl,k5⟩
 have a15:=a14.keep k5 id
 rw[zDy a15,zBm,zA8,zAnn zGh,zAa]
 obtain⟨h6,st6,a6,k6⟩:=(((a2.keep k3 id).keep k4 id).keep k5 id).st (n:=34) (ds:=itC (itT x.1)) (by simp[itC,zIT]) (zQl zGh) zZm
 exact⟨h6,st6,zBo (a6.ldN (zQl zGh)) ⟨rfl,(k04.trans k5).fresh k6 λb e=>by omega⟩⟩
abbrev zLJ (mv:List MV):List IT:=mv.map λx=>itT x.1
theorem zNi {P:zA3}{H:zAw}{v:Value}{mv:List MV}(hp:zNj P H v mv)(hP:∀ b,P b->b<H.size)(hl:mv.length<=1000)(hT:zYl H)(hS:zTe H) :
  zAz prg zC8 [v] H λu H'=>BufE 34 (λb=>H.size<=b/\b<H'.size) H' u ((zLJ mv).map itC)/\Keep No H H':=by
 apply zMs
 unfold zKD
 refine zWz hp.len (λi w h=>BufE 34 (λb=>H.size<=b) h w ((zLJ (mv.take i)).map itC)/\Keep No H h) (λw h=>BufE 34 (λb=>H.size<=b) h w ((zLJ mv).map itC)/\Keep No H h) ⟨BufE.nil,Keep.refl⟩ (λw h hI=>by rwa [zBA]at hI) ?_ λw _ h hE=>⟨BufE.re hE.1 λb hb hF=>⟨hF,hb⟩,hE.2⟩
 rintro i w h hlt ⟨hb,kh⟩ k1 k3 _ hk3
 obtain⟨x,hx,hm⟩:=zQj hlt
 have hpx:=hp.keep kh λ_ _=>id
 have wx:=(hp.m x hm).wf
 have g0:=kh.1
 refine zAbU hpx.h (zIq hx) zLF (zBH zN6) λh6 a6 k6=>?_
 have g6:=k6.1
 have k06:=kh.trans k6
 refine zBo (a6.ldN (zBH wx)) ?_
 refine zAI (zAf4 ((hp.keep k06 λ_ _=>id).m x hm) (hp.sm x hm) (λb hb=>by have:=hP b hb;omega) (hT.keep k06 λ_ h=>h.elim) (hS.keep k06 λ_ h=>h.elim)) ?_
 rintro _ h7 ⟨rfl,k7⟩
 have k67:=k6.trans k7
 have g7:=k67.1
 refine zUu (hb.keep k67 λ_ _=>id) (zAhi zGh) (zQl zGh) zZm (by omega) (by simp;omega) (by omega) λu h8 bu k8=>?_
 refine zJB hlt (by omega) (hk3 _ _ ⟨?_,(kh.trans k67).fresh k8 λb hb=>hb⟩)
 rw[zAF,hx]
 simpa [zLJ] using bu
theorem zWF {P Q:zA3}{H:zAw}{v w:Value}{xs ys:List IT}(hv:SlE 34 P H v (xs.map itC))(hw:SlE 34 Q H w (ys.map itC))(hx:∀ x∈xs,x.2.2.length=32)(hy:∀ y∈ys,y.2.2.length=32)(hl:xs.length<=1099511627776) :
  zAz prg zFm [v,w] H λu H'=>u = .bool (decide (xs=ys))/\H=H':=by
 apply zM1
 exact zZc (K:=eqK prg zBM) hv hw (λx h1 y h2=>(zAmX (hx x h1) (hy y h2)).1) hl
theorem zAno {a b:List UInt8}{q:EqK}:zAB q .geq (str a) (str b)=some (.bool (!decide (zME a b<0))):=by
 rw[<- zAas,zGu];exact zV8
theorem zAhj {mv:List MV}{i:Nat}{x:MV}(h:mv[i]? = some x):((zLJ mv).map itC)[i]? = some (itC (itT x.1)):=zIq (zIq (f:=λx:MV=>itT x.1) h)
theorem zAi5 {mv:List MV}:((zLJ mv).map itC).length=mv.length:=by simp[zLJ]
theorem zAf5 {P:zA3}{H:zAw}{v:Value}{mv:List MV}(hv:SlE 34 P H v ((zLJ mv).map itC))(hl:mv.length<=1000) :
  zAz prg zHl [v] H λu H'=>u = .bool (zRy (zBV mv))/\H=H':=by
 apply zLY
 unfold zKa
 have hlen:=hv.len
 rw[zAi5]at hlen
 have hvl:(zBV mv).length=mv.length:=by simp
 refine zNB (λ_ h=>zRy (zBV mv)=true/\H=h) (λk1 hk1=>?_) λ_ h hI=>⟨by rw[hI.1],hI.2⟩
 refine zAkF (s:=1) hlen (λi h=>(∀ j,j<i->upB (zBV mv) j=true)/\H=h) ⟨λj hj=>(by
  obtain rfl:j=0:=by omega
  rfl),rfl⟩ (λi h hi hI=>hk1 _ _ ⟨?_,hI.2⟩) ?_
 ·unfold zRy
  rw[zAy]
  intro j hj
  have:=zBQ.1 hj
  exact hI.1 j (by omega)
 rintro i _ h1i hlt ⟨hall,rfl⟩ k3 hk3
 obtain⟨x,hx,_⟩:=zQj (l:=mv) (i:=i-1) (by omega)
 obtain⟨y,hy,_⟩:=zQj hlt
 have es:zAB .no .sub (.int .i64 (i:Nat)) (.int .i64 1)=some (.int .i64 ((i-1:Nat):Int)):=by
  have:=zY3 (i:=i-1) (by omega)
  rwa [show i-1+1=i by omega]at this
 obtain⟨b,o,hix,hpt,_⟩:=hv.at (zAhj hx)
 obtain⟨b',o',hiy,hpt',_⟩:=hv.at (zAhj hy)
 have ub:upB (zBV mv) i=decide (zME x.1.name y.1.name<0):=by
  unfold upB
  rw[zXI hx,zXI hy,decide_eq_false (by omega),zCz]
 rw[es,zAa,hix .i64,zAa,zBi,zAa,zAu]
 refine zBo (hpt.cell0 rfl) ?_
 rw[hiy .i64,zAa,zBi,zAa,zAu]
 refine zBo (hpt'.cell0 rfl) (zBo zAno (zO3 (λe=>⟨?_,rfl⟩) λe=>zJB (n:=mv.length) hlt (by omega) (hk3 _ ⟨λj hj=>?_,rfl⟩)))
 ·have:zRy (zBV mv)=false:=by
   unfold zRy
   rw[zCF]
   exact⟨i,zBQ.2 (by omega),by rw[ub];have e:(!decide (zME x.1.name y.1.name<0))=true:=e;simpa using e⟩
  rw[this]
 ·by_cases hji:j=i
  ·rw[hji,ub];have e:(!decide (zME x.1.name y.1.name<0))=false:=e;simpa using e
  ·exact hall j (by omega)
theorem zYb {P Q:zA3}{H:zAw}{v w:Value}{xs ys:List IT}(hv:SlE 34 P H v (xs.map itC))(hw:SlE 34 Q H w (ys.map itC))(hx:∀ x∈xs,x.2.2.length=32)(hy:∀ y∈ys,y.2.2.length=32)(hl:xs.length<=1000)(hl':ys.length<=1000) :
  zAz prg zFt [v,w] H λu H'=>BufE 34 (λb=>H.size<=b/\b<H'.size) H' u ((zFQ xs ys).map itC)/\Keep No H H':=by
 apply zLx
 unfold zJt
 have lv:∀ h,Keep No H h->zDp v=some (.int .i64 (xs.length:Nat)):=λh k=>by have:=hv.len;rwa [zAd]at this
 have lw:∀ h,Keep No H h->zDp w=some (.int .i64 (ys.length:Nat)):=λh k=>by have:=hw.len;rwa [zAd]at this
 refine zMC (λu _ h=>BufE 34 (λb=>H.size<=b) h u ((zFQ xs ys).map itC)/\Keep No H h) (λk1 hk1=>?_) λu _ h hI=>⟨BufE.re hI.1 λb hb hF=>⟨hF,hb⟩,hI.2⟩
 refine zAg8 (s:=0) (lv H Keep.refl) (λi u h=>BufE 34 (λb=>H.size<=b) h u ((zFQ (xs.take i) ys).map itC)/\Keep No H h) ⟨BufE.nil,Keep.refl⟩ (λi u h hi hI=>hk1 _ _ _ (by rwa [zAp hi]at hI)) ?_
 rintro i u h _ hlt ⟨hb,kh⟩ k3 hk3
 obtain⟨x,hgx,hxm⟩:=zQj hlt
 have ex:zFQ (xs.take (i+1)) ys=zFQ (xs.take i) ys++if (ys.any λy=>decide (x=y)) then [] else [x]:=by
  unfold zFQ
  rw[zAF,hgx,List.filter_append]
  congr 1
  show List.filter _ [x]=_
  rw[zBS]
  cases (ys.any λy=>decide (x=y))<;>rfl
 refine J3_i (λu' _ _ h'=>BufE 34 (λb=>H.size<=b) h' u' ((zFQ (xs.take (i+1)) ys).map itC)/\Keep No H h') (λk5 hk5=>?_) λu' _ _ h' hI=>zJB hlt (by omega) (hk3 _ _ hI)
 refine zMC (λu7 _ h'=>u7 = .bool (ys.any λy=>decide (x=y))/\h=h') (λk7 hk7=>?_) ?_
 ·refine zAg8 (s:=0) (lw H Keep.refl) (λj u7 h'=>u7 = .bool ((ys.take j).any λy=>decide (x=y))/\h=h') ⟨rfl,rfl⟩ (λj u7 h' hj hI=>hk7 _ _ _ (by rwa [zAp hj]at hI)) ?_
  rintro j _ _ _ hj ⟨rfl,rfl⟩ k9 hk9
  obtain⟨y,hgy,hym⟩:=zQj hj
  obtain⟨b,o,hix,hpt,_⟩:=(hv.keep kh λ_ _=>id).at (zIq (f:=itC) hgx)
  obtain⟨b',o',hiy,hpt',_⟩:=(hw.keep kh λ_ _=>id).at (zIq (f:=itC) hgy)
  have est:=zO2 (p:=λy=>decide (x=y)) hgy
  refine zLK (λq=>?_) λq=>?_
  ·exact zJB hj (by omega) (hk9 _ _ ⟨by rw[est,q];rfl,rfl⟩)
  ·refine zBo (hix .i64) (zBo (hpt.agg (zQl (hx x hxm))) (zBo (hiy .i64) (zBo (hpt'.agg (zQl (hy y hym))) (zBo (zAmX (hx x hxm) (hy y hym)).2 (zJB hj (by omega) (hk9 _ _ ⟨?_,rfl⟩))))))
   rw[est,q];rfl
 rintro _ _ _ ⟨rfl,rfl⟩
 refine zBo rfl (zO3 (λe=>?_) λe=>hk5 _ _ _ _ ⟨?_,kh⟩)
 ·have e':(ys.any λy=>decide (x=y))=false:=by simpa using e
  obtain⟨b,o,hix,hpt,_⟩:=(hv.keep kh λ_ _=>id).at (zIq (f:=itC) hgx)
  refine zBo (hix .i64) (zBo (hpt.agg (zQl (hx x hxm))) ?_)
  have hfl:(zFQ (xs.take i) ys).length<=1000:=by
   unfold zFQ
   have:=zA9 (λx=>!ys.any λy=>decide (x=y)) (xs.take i)
   rw[zA5]at this;omega
  refine zUu hb (zAhi (hx x hxm)) (zQl (hx x hxm)) zZm (by omega) (by rw[zAd];omega) kh.1 λu' h' hb' k'=>hk5 _ _ _ _ ⟨?_,kh.fresh k' λb hb=>hb⟩
  rw[ex,e']
  simpa using hb'
 ·have e':(ys.any λy=>decide (x=y))=true:=by simpa using e
  rw[ex,e']
  simpa using hb
theorem zSg {P:zA3}{H:zAw}{v:Value}{mv:List MV}(hp:zNj P H v mv)(hP:∀ b,P b->b<H.size)(hl:mv.length<=1000)(hT:zYl H)(hS:zTe H) :
  zAz prg zD5 [v] H λu H'=>u = .bool (zDE (zBV mv))/\Keep No H H':=by
 apply zMr
 unfold zKC
 refine zAI (zAau hp hP hl hT.ops) ?_
 rintro _ h1 ⟨⟨w,rfl⟩,k1⟩
 have g1:=k1.1
 refine zBo rfl (zBo rfl (zBo eqI ?_))
 rw[zUE]
 refine zKu (λe=>?_) λe=>⟨by rw[e];rfl,k1⟩
 refine zAI (zNi (hp.keep k1 λ_ _=>id) (λb hb=>by have:=hP b hb;omega) hl (hT.keep k1 λ_ h=>h.elim) (hS.keep k1 λ_ h=>h.elim)) ?_
 rintro t14 h3 ⟨b3,k3⟩
 refine zAI (zAf5 b3.sl hl) ?_
 rintro _ _ ⟨rfl,rfl⟩
 exact⟨by rw[e];rfl,k1.trans k3⟩
theorem zAaG:zBE prg zA6=some (pvC zPW).toArray:=zAbt
theorem zTs.one {P:zA3}{H:zAw}{x:PW}(h:zTs P H x):∀ c∈pvC x,c.oneCell'=true:=λc hc=>by
 rcases zAs.1 hc with hc|hc
 ·exact zF4 (x:=x.1) h.m c hc
 ·rw[zAM.1 hc];exact h.f.sl.oneC
theorem zUF {h:zAw}{q:Nat}{x:PW}(a:At h q (pvC x))(w:x.1.1.wf):ldN 8 h (Ptr q 0)=some (.agg (mvC x.1).toArray):=zAha a.pt w
theorem zAnp {h:zAw}{q:Nat}{x:PW}(a:At h q (pvC x))(w:x.1.1.wf):ld1 h (Ptr q 8)=some x.2.1:=a.ld (zSY w)
abbrev zGT (pv:List PW):List MV:=pv.map (·.1)
theorem zWG {P:zA3}{H:zAw}{v:Value}{pv:List PW}(hp:zUD P H v pv)(hl:pv.length<=1048576) :
  zAz prg zER [v] H λu H'=>BufE 8 (λb=>H.size<=b/\b<H'.size) H' u ((zGT pv).map mvC)/\Keep No H H':=by
 apply zKp
 unfold zIj
 refine zWz hp.len (λi w h=>BufE 8 (λb=>H.size<=b) h w ((zGT (pv.take i)).map mvC)/\Keep No H h) (λw h=>BufE 8 (λb=>H.size<=b) h w ((zGT pv).map mvC)/\Keep No H h) ⟨BufE.nil,Keep.refl⟩ (λw h hI=>by rwa [zBA]at hI) ?_ λw _ h hE=>⟨BufE.re hE.1 λb hb hF=>⟨hF,hb⟩,hE.2⟩
 rintro i w h hlt ⟨hb,kh⟩ k1 k3 _ hk3
 obtain⟨x,hx,hm⟩:=zQj hlt
 have hpx:=hp.keep kh λ_ _=>id
 have wx:=(hp.m x hm).m.wf
 have g0:=kh.1
 refine zAbU hpx.h (zIq hx) zAaG (zDS zQh) λh6 a6 k6=>?_
 have g6:=k6.1
 rw[zBi,zAa,zAu]
 refine zBo (zUF a6 wx) ?_
 refine zUu (hb.keep k6 λ_ _=>id) (zOa (zBH wx)) (zBH wx) (zF4 (x:=x.1) (hp.m x hm).m) (by omega) (by simp;omega) (by omega) λu h8 bu k8=>?_
 refine zJB hlt (by omega) (hk3 _ _ ⟨?_,(kh.trans k6).fresh k8 λb hb=>hb⟩)
 rw[zAF,hx]
 simpa [zGT] using bu
theorem zUD.mans {P:zA3}{H H':zAw}{v u:Value}{pv:List PW}(hp:zUD P H v pv)(k:Keep No H H')(b:BufE 8 (λb=>H.size<=b/\b<H'.size) H' u ((zGT pv).map mvC)):zUB (λb=>P b\/(H.size<=b/\b<H'.size)) H' u (zGT pv) :=
 ⟨b.sl.mono λ_ => .inr,λx hx=>by
  obtain⟨y,hy,rfl⟩:=zAo.1 hx
  exact((hp.m y hy).m.keep k λ_ _=>id).mono λ_ => .inl,by rw[zAd];exact hp.hl⟩
def zQV (l:List Pk):List Pk:=l.foldl zTr []
theorem zQH {l:List Pk}{x:Pk}:zQV (l++[x])=zTr (zQV l) x:=by unfold zQV;rw[List.foldl_append];rfl
theorem zYc {l:List Pk}{x:Pk}:(zAbu l x=0/\zTr l x=l++[x])\/zTr l x=l:=by
 unfold zAbu zTr
 cases hk:zUK x
 ·right;rfl
 ·cases hf:l.find? (zKJ x.1.name x.1.ver) with
  | some y=>right;rfl
  | none =>
   by_cases h:l.length=256
   ·right;simp[h]
   ·left;simp[h]
theorem zAi6 {l:List Pk}{x:Pk}:(zTr l x).length<=l.length+1:=by
 rcases zYc (l:=l) (x:=x) with ⟨_,h⟩|h<;>rw[h]<;>simp
theorem zAi7 {l:List Pk}{x:Pk}(h:∀ y∈l,zUK y=true):∀ y∈zTr l x,zUK y=true:=by
 unfold zTr
 cases hk:zUK x
 ·exact h
 ·cases hf:l.find? (zKJ x.1.name x.1.ver) with
  | some y=>exact h
  | none =>
   simp only[zAc,if_false]
   split
   ·exact h
   ·intro y hy
    rcases zAs.1 hy with hy|hy
    ·exact h y hy
    ·rw[zAM.1 hy];exact hk
theorem zAf6 {l:List Pk}:∀ y∈zQV l,zUK y=true:=by
 have:∀ (l m:List Pk),(∀ y∈m,zUK y=true)->∀ y∈l.foldl zTr m,zUK y=true:=λl=>by
  induction l with
  | nil=>exact λm h=>h
  | cons x l ih=>exact λm h=>ih _ (zAi7 h)
 exact this l [] λy h=>by cases h
theorem zAaH {l:List Pk}:(zQV l).length<=l.length:=by
 have:∀ (l m:List Pk),(l.foldl zTr m).length<=m.length+l.length:=λl=>by
  induction l with
  | nil=>exact λm=>by simp
  | cons x l ih =>
   intro m
   have h1:=ih (zTr m x)
   have h2:=zAi6 (l:=m) (x:=x)
   rw[zAQ]
   show(l.foldl zTr (zTr m x)).length<=_
   omega
 simpa [zQV] using this l []
structure zAbB (P:zA3)(n0:Nat)(l:List Pk)(h:zAw)(R F:zA3)(p:Nat)(w:Value)(out:List PW):Prop where
 q:zQg R p l h
 b:BufE 9 F h w (out.map pvC)
 e:out.map zJA=l
 rb:∀ b,R b->n0<=b
 fb:∀ b,F b->n0<=b/\b<h.size/\¬ R b
theorem zAbB.keep {P:zA3}{n0:Nat}{l:List Pk}{h h':zAw}{R F:zA3}{p:Nat}{w:Value}{out:List PW}(u:zAbB P n0 l h R F p w out)(k:Keep No h h'):zAbB P n0 l h' R F p w out :=
 ⟨u.q.keep k λ_ _=>id,u.b.keep k λ_ _=>id,u.e,u.rb,λb hb=>⟨(u.fb b hb).1,zAN (u.fb b hb).2.1 k.1,(u.fb b hb).2.2⟩⟩
theorem zAkU {n m:Nat}:zAB .no .gtr (.int .i64 (n:Nat)) (.int .i64 (m:Nat))=some (.bool (decide (n > m))):=zAbQ
theorem zAf7 {P:zA3}{H:zAw}{v:Value}{pv:List PW}(hp:zUD P H v pv)(hs:zTl (zGT pv))(hP:∀ b,P b->b<H.size)(hl:pv.length<=100)(hT:zYl H)(hS:zTe H)(hNG:NG<=H.size) :
  zAz prg zIt [v] H λu H'=>(∃ R F p w out,u = .tuple #[Ptr p 0,w]/\zAbB P H.size (zQV (pv.map zJA)) H' R F p w out/\∀ x∈out,x∈pv)/\Keep No H H':=by
 apply zM0
 unfold zLt
 refine zAI zXZ ?_
 rintro _ h1 ⟨rfl,q1,k1⟩
 have g1:=k1.1
 have pn:zAB .ptr .eql (Ptr H.size 0) (.pointer none)=some (.bool false):=rfl
 refine zBo pn (zN9 rfl ?_)
 let I:List PW->zAm:=λl w h=>(∃ R F out,zAbB P H.size (zQV (l.map zJA)) h R F H.size w out/\∀ x∈out,x∈pv)/\Keep No H h
 refine zWz hp.len (λi w h=>I (pv.take i) w h) (λw h=>I pv w h) ⟨⟨(· = H.size),No,[],⟨q1,BufE.nil,rfl,λb hb=>by omega,λb hb=>hb.elim⟩,λx h=>by cases h⟩,k1⟩ (λw h hI=>by rwa [zBA]at hI) ?_ ?_
 rotate_left
 ·rintro w _ h ⟨⟨R,F,out,hu,ho⟩,k⟩
  exact⟨⟨R,F,H.size,w,out,rfl,hu,ho⟩,k⟩
 rintro i w h hlt ⟨⟨R,F,out,hu,ho⟩,kh⟩ k2 k4 _ hk4
 obtain⟨x,hx,hm⟩:=zQj hlt
 have hpx:=hp.keep kh λ_ _=>id
 have hrx:=hp.m x hm
 have wx:=hrx.m.wf
 have g0:=kh.1
 have hsx:=hs x.1 (zAo.2 ⟨x,hm,rfl⟩)
 have htk:(pv.take (i+1)).map zJA=(pv.take i).map zJA++[zJA x]:=by rw[zAF,hx];simp
 have hpl:(zQV ((pv.take i).map zJA)).length<=100:=by
  have:=zAaH (l:=(pv.take i).map zJA)
  rw[zAd,zA5]at this;omega
 refine zMC (λw' _ h'=>I (pv.take (i+1)) w' h') (λk6 hk6=>?_) λw' _ h' hI=>zJB hlt (by omega) (hk4 _ _ hI)
 refine zAbU hpx.h (zIq hx) zAaG (zDS zQh) λh9 a9 k9=>?_
 have hu9:=hu.keep k9
 refine zAI (zSe hu9.q) ?_
 rintro _ _ ⟨rfl,rfl⟩
 have k09:=kh.trans k9
 have g09:=k09.1
 have hxin:zAfT P h9 x:=⟨hrx.m.keep k09 λ_ _=>id,hrx.f.keep k09 (λ_ _=>id) λ_ _=>id,by have:=hsx.2.2.1;omega,by have:=hsx.2.2.2.1;omega,by have:=hsx.2.2.2.2;omega⟩
 refine zBo (a9.ldN (zDS wx)) ?_
 refine zAI (zAiR hu9.q hxin (λb hb=>by have:=hP b hb;omega) (by omega) (hT.keep k09 λ_ h=>h.elim).ops (hS.keep k09 λ_ h=>h.elim)) ?_
 rintro _ h11 ⟨rfl,⟨R',q',hR'⟩,k11⟩
 have g9:=k9.1
 have g11:=k11.1
 have hRl:∀ b,R b->b<h.size:=by obtain⟨_,_,_,_,_,_,_,_,_,_,_,z⟩:=hu.q;exact z
 have a11:At h11 h.size (pvC x):=a9.keep k11 λhb=>by have:=hRl _ hb;omega
 have k011:Keep No H h11:=k09.fresh k11 λb hb=>hu.rb b hb
 have b11:=hu9.b.keep k11 λb hb hR=>(hu.fb b hb).2.2 hR
 have hu11:zAbB P H.size (zTr (zQV ((pv.take i).map zJA)) (zJA x)) h11 R' F H.size w out->True:=λ_=>trivial
 have hR0:∀ b,R' b->H.size<=b:=λb hb=>(hR' b hb).elim (hu.rb b) λhb=>by omega
 have hF0:∀ b,F b->H.size<=b/\b<h11.size/\¬ R' b:=λb hb=>⟨(hu.fb b hb).1,by have:=(hu.fb b hb).2.1;omega,λhr=>(hR' b hr).elim (hu.fb b hb).2.2 λhr=>by have:=(hu.fb b hb).2.1;omega⟩
 rcases zYc (l:=zQV ((pv.take i).map zJA)) (x:=zJA x) with ⟨hz,hpp⟩|hpp
 ·refine zBo eqI (zKu (λ_=>?_) λe=>absurd e (by rw[decide_eq_true hz];decide))
  refine zAI (zSe q') ?_
  rintro _ _ ⟨rfl,rfl⟩
  refine zBo zAkU (zJJ (by rw[hpp];simp) (zBo (a11.ldN (zDS wx)) ?_))
  have hol:out.length<=100:=by have:=congrArg List.length hu.e;rw[zAd]at this;omega
  refine zAg9 b11 (zZe (zDS wx)) (zDS wx) hrx.one (by omega) (by rw[zAd];omega) λu h16 bu k16=>hk6 _ _ _ ⟨⟨R',λb=>F b\/(h11.size<=b/\b<h16.size),out++[x],⟨?_,by rw[zAG];exact bu,?_,hR0,λb hb=>?_⟩,λy hy=>?_⟩,k011.fresh k16 λb hb=>hb.elim (λhb=>(hF0 b hb).1) λhb=>by have:=k011.1;omega⟩
  ·rw[htk,zQH]
   exact q'.keep k16 λb hb hh=>hh.elim (λhF=>(hF0 b hF).2.2 hb) λhh=>by
    obtain⟨_,_,_,_,_,_,_,_,_,_,_,z⟩:=q'
    have:=z b hb;omega
  ·rw[zAG,hu.e,htk,zQH,hpp];rfl
  ·have g16:=k16.1
   rcases hb with hb|hb
   ·exact⟨(hF0 b hb).1,by have:=(hF0 b hb).2.1;omega,(hF0 b hb).2.2⟩
   ·refine⟨by have:=k011.1;omega,hb.2,λhr=>?_⟩
    obtain⟨_,_,_,_,_,_,_,_,_,_,_,z⟩:=q'
    have:=z b hr;omega
  ·rcases zAs.1 hy with hy|hy
   ·exact ho y hy
   ·rw[zAM.1 hy];exact hm
 ·have done:∀ t,k6 w t h11:=λt=>hk6 _ _ _ ⟨⟨R',F,out,⟨by rw[htk,zQH];exact q',b11,by rw[hu.e,htk,zQH,hpp],hR0,hF0⟩,ho⟩,k011⟩
  refine zBo eqI (zKu (λ_=>?_) λe=>zN9 rfl (done _))
  refine zAI (zSe q') ?_
  rintro _ _ ⟨rfl,rfl⟩
  exact zBo zAkU (zN9 (by rw[hpp];simp) (done _))
theorem zAf8 {α:Type}{l:List α}{i:Nat}{x:α}{p:α->Bool}(h:l[i]? = some x):(l.take (i+1)).all p=((l.take i).all p&&p x):=by
 rw[zAF,h,zC3];simp
theorem zZn {P Qd Qs Qt:zA3}{H:zAw}{v d s t:Value}{inst dr af:List MV}{ad:List PW}{kind:Int}(hp:zNj P H v inst)(hd:zNj Qd H d dr)(hs:SlE 9 Qs H s (ad.map pvC))(hsm:∀ x∈ad,PkV Qs H x)(ht:zNj Qt H t af)
  (hB:∀ b,P b\/Qd b\/Qs b\/Qt b->b<H.size) (l1:inst.length<=1000) (l2:dr.length<=1000) (l3:ad.length<=1000) (l4:af.length<=1000) (hT:zYl H) (hS:zTe H) :
  zAz prg zGX [v,.agg (chC kind d s t).toArray] H λu H'=>u = .bool (zNP (zBV inst) (zBV dr) (ad.map zJA) (zBV af))/\Keep No H H':=by
 apply zLu
 unfold zJs
 simp only[zB3,zBb,zBi,zAh,zAa]
 generalize hH1:H.push (.cells (chC kind d s t).toArray zCg (0,0))=h1
 have k1:Keep No H h1:=by rw[<- hH1];exact Keep.push
 have a1:At h1 H.size (chC kind d s t):=by rw[<- hH1];exact At.push
 have g1:=k1.1
 have la:=hs.len
 rw[zAd]at la
 let B:zA3:=λb=>h1.size<=b
 refine zMC (λw _ h=>(ad.map zJA).all zUK=true/\BufE 8 B h w ((zGT ad).map mvC)/\Keep No h1 h) (λk2 hk2=>?_) ?_
 ·refine zBo (a1.ld (i:=2) rfl) (zBo la ?_)
  refine zSZ (λi w h=>((ad.map zJA).take i).all zUK=true/\BufE 8 B h w ((zGT (ad.take i)).map mvC)/\Keep No h1 h) ⟨rfl,BufE.nil,Keep.refl⟩ (λw h hI=>hk2 _ _ _ ⟨by have:=hI.1;rwa [zAp (by simp)]at this,by have:=hI.2.1;rwa [zBA]at this,hI.2.2⟩) ?_
  rintro i w h hlt ⟨hall,hb,kh⟩ k4 hk4
  obtain⟨x,hx,hm⟩:=zQj hlt
  have k0h:=k1.trans kh
  have hvx:=(hsm x hm).keep k0h λ_ _=>id
  have wx:=hvx.m.wf
  have g0:=kh.1
  have gH:=k1.1
  refine zAbU (hs.keep k0h λ_ _=>id) (zIq hx) zAaG (zDS zQh) λh6 a6 k6=>?_
  have k06:=k0h.trans k6
  have hv6:=hvx.keep k6 λ_ _=>id
  have hall':=zAf8 (p:=zUK) (zIq (f:=zJA) hx)
  have bad:zUK (zJA x)=false->(zNP (zBV inst) (zBV dr) (ad.map zJA) (zBV af))=false:=λe=>by
   unfold zNP
   rw[zCF.2 ⟨zJA x,zAo.2 ⟨x,hm,rfl⟩,by simp[e]⟩];rfl
  simp only[zBi,zAh,zAu,zAa]
  refine zBo (zUF a6 wx) ?_
  refine zAI (zSc hv6.m (by have:=hv6.sd;omega) (by have:=hv6.sc;omega) (hT.keep k06 λ_ h=>h.elim).ops) ?_
  rintro _ h8 ⟨rfl,k8⟩
  have a8:=a6.keep k8 id
  have g8:=(k06.trans k8).1
  have po:zUK (zJA x)=(zEy x.1.1&&zFl x.1.1.files (x.2.2.map (·.2))):=rfl
  refine zBo rfl (zLK (λe=>zJJ rfl ⟨by rw[bad (by rw[po];have e:(!zEy x.1.1)=true:=e;simp at e;rw[e];rfl)],k06.trans k8⟩) λe=>?_)
  have eok:zEy x.1.1=true:=by have e:(!zEy x.1.1)=false:=e;simpa using e
  refine zBo (zUF a8 wx) (zBo (zAnp a8 wx) ?_)
  have hv8:=hv6.keep k8 λ_ _=>id
  refine zAI (zAc3 hv8.m hv8.f (λb hb=>by have:=hB b (.inr (.inr (.inl hb)));omega) (λ_=>by have:=hv8.sn;omega) (λj y f hy _ _=>hv8.sb y (zAD hy)) (hS.keep (k06.trans k8) λ_ h=>h.elim)) ?_
  rintro _ h10 ⟨rfl,k10⟩
  have a10:=a8.keep k10 id
  have k610:=(k6.trans k8).trans k10
  have g10:=k610.1
  refine zBo rfl (zO3 (λe=>⟨by rw[bad (by rw[po];have e:(!zFl x.1.1.files (x.2.2.map (·.2)))=true:=e;simp only[zBC]at e;rw[e,zB1])],(k06.trans k8).trans k10⟩) λe=>?_)
  have efit:zFl x.1.1.files (x.2.2.map (·.2))=true:=by have e:(!zFl x.1.1.files (x.2.2.map (·.2)))=false:=e;simpa using e
  refine zBo (zUF a10 wx) ?_
  refine zUu (hb.keep k610 λ_ _=>id) (zOa (zBH wx)) (zBH wx) (zF4 (x:=x.1) (hsm x hm).m) (by omega) (by simp;omega) (by omega) λu h12 bu k12=>?_
  refine zJB hlt (by omega) (hk4 _ _ ⟨?_,?_,(kh.trans k610).fresh k12 λb hb=>?_⟩)
  ·rw[hall',hall,po,eok,efit];rfl
  ·rw[zAF,hx]
   simpa [zGT] using bu
  ·exact hb
 rintro w _ h ⟨hall,hbw,kh⟩
 have k0h:=k1.trans kh
 have a0:=a1.keep kh id
 have g0:=k0h.1
 have gH:=kh.1
 have hB':∀ b,P b\/Qd b\/Qs b\/Qt b->∀ h',Keep No H h'->b<h'.size:=λb hb h' k=>zAN (hB b hb) k.1
 have TT:∀ h',Keep No H h'->zYl h'/\zTe h':=λh' k=>⟨hT.keep k λ_ h=>h.elim,hS.keep k λ_ h=>h.elim⟩
 have wl:∀ mv:List MV,∀ x∈zLJ mv,x.2.2.length=32:=λmv x hx=>by
  obtain⟨y,_,rfl⟩:=zAo.1 hx
  exact zGh
 refine zBo (a0.ld (i:=3) rfl) ?_
 refine zAI (zNi (hp.keep k0h λ_ _=>id) (λb hb=>hB' b (.inl hb) _ k0h) l1 (TT _ k0h).1 (TT _ k0h).2) ?_
 rintro t36 h14 ⟨b36,k14⟩
 have k014:=k0h.trans k14
 have a14:=a0.keep k14 id
 rw[a14.ld (i:=3) rfl]
 rw[zBm,zA8]
 refine zAI (zNi (ht.keep k014 λ_ _=>id) (λb hb=>hB' b (.inr (.inr (.inr hb))) _ k014) l4 (TT _ k014).1 (TT _ k014).2) ?_
 rintro t39 h15 ⟨b39,k15⟩
 have k015:=k014.trans k15
 have b36':=b36.sl.keep k15 λ_ _=>id
 refine zBo ((a14.keep k15 id).ld (i:=3) rfl) ?_
 refine zAI (zSg (ht.keep k015 λ_ _=>id) (λb hb=>hB' b (.inr (.inr (.inr hb))) _ k015) l4 (TT _ k015).1 (TT _ k015).2) ?_
 rintro _ h16 ⟨rfl,k16⟩
 have k016:=k015.trans k16
 have cf:zNP (zBV inst) (zBV dr) (ad.map zJA) (zBV af)=(zDE (zBV af)&&decide (zLJ dr=zFQ (zLJ inst) (zLJ af))&&decide (zLJ (zGT ad)=zFQ (zLJ af) (zLJ inst))):=by
  unfold zNP
  rw[hall,zBf]
  simp only[List.map_map];rfl
 have b36x:=b36'.keep k16 λ_ _=>id
 have b39x:=b39.sl.keep k16 λ_ _=>id
 have fl:∀ xs ys:List IT,(zFQ xs ys).length<=xs.length:=λxs ys=>by unfold zFQ;exact zA9 _ _
 have wf:∀ xs ys:List IT,(∀ x∈xs,x.2.2.length=32)->∀ x∈zFQ xs ys,x.2.2.length=32:=λxs ys hx x h=>hx x (zA0.1 h).1
 refine zKu (λe=>?_) λe=>zKu (λe=>by cases e) λ_=>⟨by rw[cf,e];rfl,k016⟩
 refine zBo (((a14.keep k15 id).keep k16 id).ld (i:=1) rfl) ?_
 refine zAI (zNi (hd.keep k016 λ_ _=>id) (λb hb=>hB' b (.inr (.inl hb)) _ k016) l2 (TT _ k016).1 (TT _ k016).2) ?_
 rintro t46 h18 ⟨b46,k18⟩
 have k018:=k016.trans k18
 refine zAI (zYb (b36x.keep k18 λ_ _=>id) (b39x.keep k18 λ_ _=>id) (wl inst) (wl af) (by simpa [zLJ] using l1) (by simpa [zLJ] using l4)) ?_
 rintro t49 h19 ⟨b49,k19⟩
 have k019:=k018.trans k19
 refine zAI (zWF (b46.sl.keep k19 λ_ _=>id) b49.sl (wl dr) (wf _ _ (wl inst)) (by simp[zLJ];omega)) ?_
 rintro _ _ ⟨rfl,rfl⟩
 refine zKu (λe2=>?_) λe2=>⟨by rw[cf,e,e2];rfl,k019⟩
 have k1619:=k18.trans k19
 have kh19:Keep No h h19:=(((k14.trans k15).trans k16).trans k18).trans k19
 have hA:zNj (λb=>Qs b\/(h1.size<=b/\b<h.size)) h19 w (zGT ad):=by
  refine⟨(BufE.re hbw λb hb hF=>(⟨hF,hb⟩:B b/\b<h.size)).sl.keep kh19 (λ_ _=>id) |>.mono λ_ => .inr,λx hx=>?_,λx hx=>?_⟩
  ·obtain⟨y,hy,rfl⟩:=zAo.1 hx
   exact((hsm y hy).m.keep k019 λ_ _=>id).mono λ_ => .inl
  ·obtain⟨y,hy,rfl⟩:=zAo.1 hx
   exact⟨(hsm y hy).sd,(hsm y hy).sc⟩
 refine zAI (zNi hA (λb hb=>hb.elim (λhb=>hB' b (.inr (.inr (.inl hb))) _ k019) λhb=>by have:=kh19.1;omega) (by simpa [zGT] using l3) (TT _ k019).1 (TT _ k019).2) ?_
 rintro t54 h23 ⟨b54,k23⟩
 have k023:=k019.trans k23
 refine zAI (zYb ((b39x.keep k1619 λ_ _=>id).keep k23 λ_ _=>id) ((b36x.keep k1619 λ_ _=>id).keep k23 λ_ _=>id) (wl af) (wl inst) (by simpa [zLJ] using l4) (by simpa [zLJ] using l1)) ?_
 rintro t57 h24 ⟨b57,k24⟩
 refine zAI (zWF (b54.sl.keep k24 λ_ _=>id) b57.sl (wl _) (wf _ _ (wl af)) (by simp[zLJ,zGT];omega)) ?_
 rintro _ _ ⟨rfl,rfl⟩
 exact⟨by rw[cf,e,e2];rfl,k023.trans k24⟩
section
variable {h:zAw} {q:Nat} {vi vp:Value} {a:zPB}
theorem zYd (w:a.wf):(zHi vi vp a).length=10:=by unfold zHi;simp[zO5 w]
theorem zAbC (p:At h q (zHi vi vp a)):ld1 h (Ptr q 0)=some vi:=p.ld rfl
theorem zAmY (p:At h q (zHi vi vp a)):ld1 h (Ptr q 1)=some vp:=p.ld rfl
theorem zAeg (p:At h q (zHi vi vp a)):ld1 h (Ptr q 2)=some (.int .i64 a.kind):=p.ld rfl
theorem zWH (p:At h q (zHi vi vp a)):ld1 h (Ptr q 3)=some (str a.name):=p.ld rfl
theorem zAmj (p:At h q (zHi vi vp a)):ld1 h (Ptr q 4)=some (str a.want.op):=p.ld rfl
theorem zAi8 (p:At h q (zHi vi vp a))(w:a.wf):ldN 5 h (Ptr q 4)=some (.agg (zEC a.want).toArray):=by
 have:Pt h q 4 (zEC a.want):=Pt.mid (A:=[vi,vp,.int .i64 a.kind,str a.name]) (B:=zEC a.want) (C:=[.int .i64 a.bound]) (o:=0) (by simpa [zHi,zQ7] using p.pt) (by simp)
 exact this.agg (zEZ w.want)
theorem zAhk (p:At h q (zHi vi vp a))(w:a.wf):ldN 8 h (Ptr q 2)=some (.agg (zQ7 a).toArray):=by
 have:Pt h q 2 (zQ7 a):=Pt.mid (A:=[vi,vp]) (B:=zQ7 a) (C:=[]) (o:=0) (by simpa [zHi] using p.pt) (by simp)
 exact this.agg (zO5 w)
theorem zAkV (p:At h q (zHi vi vp a))(w:a.wf):ld1 h (Ptr q 8)=some (str a.want.ver.pre):=by
 obtain⟨b1,b2,b3,e⟩:=Ver.cases3 w.want.ver
 refine p.ld ?_
 unfold zHi zQ7 zEC zEP
 rw[e];rfl
theorem zWI (p:At h q (zHi vi vp a))(w:a.wf):ld1 h (Ptr q 9)=some (.int .i64 a.bound):=by
 refine p.ld ?_
 have h1:=zO5 w
 have h2:=zEZ w.want
 unfold zHi zQ7
 rw[show vi::vp::([Value.int .i64 a.kind,str a.name]++zEC a.want++[.int .i64 a.bound])=([vi,vp,.int .i64 a.kind,str a.name]++zEC a.want)++[.int .i64 a.bound] by simp]
 rw[zBc (by simp[h2]),zAt,h2];rfl
end
def fwF (nm:List UInt8)(w:zQ5)(l:List Man):zQ5:=l.foldl (λw m=>if m.name=nm then ⟨[62],m.ver⟩ else w) w
theorem zAaI {nm:List UInt8}{w:zQ5}{l:List Man}{m:Man}:fwF nm w (l++[m])=if m.name=nm then ⟨[62],m.ver⟩ else fwF nm w l:=by unfold fwF;rw[List.foldl_append];rfl
theorem zAeh {nm:List UInt8}:∀ {l:List Man} {w:zQ5},(∀ m∈l,m.name≠nm)->fwF nm w l=w
 | [],_,_=>rfl
 | x::l,w,h=>by
  show fwF nm (if x.name=nm then ⟨[62],x.ver⟩ else w) l=w
  rw[if_neg (h x (by simp)),zAeh λm hm=>h m (by simp[hm])]
theorem zAei {nm:List UInt8}:∀ {l:List Man} {w:zQ5} {o:Man},(l.map (·.name)).Nodup->l.find? (λm=>decide (m.name=nm))=some o->fwF nm w l=⟨[62],o.ver⟩
 | [],_,_,_,h=>by cases h
 | x::l,w,o,hn,h=>by
  rw[zA2,zCC]at hn
  show fwF nm (if x.name=nm then ⟨[62],x.ver⟩ else w) l=_
  rw[List.find?_cons]at h
  by_cases e:x.name=nm
  ·rw[decide_eq_true e]at h
   cases h
   rw[if_pos e,zAeh λm hm e2=>hn.1 (zAo.2 ⟨m,hm,by rw[e2,e]⟩)]
  ·rw[decide_eq_false e]at h
   rw[if_neg e]
   exact zAei hn.2 h
theorem zAaJ {inst:List Man}{a:zPB}(hn:(inst.map (·.name)).Nodup)(hc:zMz inst a)(hk:a.kind=1\/a.kind=2):fwF a.name a.want inst=zNh inst a:=by
 unfold zNh
 rcases hk with hk|hk
 ·rw[if_neg (by omega)]
  have:=hc.2.1 hk
  unfold zRw at this
  cases hf:inst.find? (λm=>decide (m.name=a.name)) with
  | some o=>rw[hf]at this;cases this
  | none=>exact zAeh λm hm=>by have:=zCx.1 hf m hm;simpa using this
 ·rw[if_pos hk]
  have:=hc.2.2 (by omega)
  unfold zRw at this
  cases hf:inst.find? (λm=>decide (m.name=a.name)) with
  | none=>rw[hf]at this;cases this
  | some o=>exact zAei hn hf
def zAej (inst:List Man)(m:Man):Bool:=inst.any λo=>decide (o.name=m.name)&&decide (o.ver=m.ver)
theorem zYe {inst:List Man}(hn:(inst.map (·.name)).Nodup){m:Man}:zUw inst m = !zAej inst m:=by
 unfold zUw
 cases hf:inst.find? (λo=>decide (o.name=m.name)) with
 | none =>
  have:zAej inst m=false:=by
   unfold zAej
   rw[zCG]
   intro o ho
   have:=zCx.1 hf o ho
   simp at this
   simp[this]
  rw[this];rfl
 | some o =>
  have ho:=List.mem_of_find?_eq_some hf
  have hs:=List.find?_some hf
  simp at hs
  show(!decide (o.ver=m.ver))=_
  congr 1
  unfold zAej
  rw[zAW,zBK,decide_eq_true_eq]
  constructor
  ·exact λe=>⟨o,ho,by simp[hs,e]⟩
  ·rintro⟨x,hx,e⟩
   simp at e
   obtain⟨i,hi,rfl⟩:=zBz hx
   obtain⟨j,hj,rfl⟩:=zBz ho
   have:=zWE hn hi hj (by rw[zQk hi,zQk hj];exact e.1.trans hs.symm)
   subst this
   exact e.2
theorem zUG {nm:List UInt8}{l:List Man}{m:Man}:zFA (l++[m]) nm=zFA l nm++if m.name=nm then [] else [⟨m.name,⟨[61],m.ver⟩⟩]:=by
 unfold zFA
 rw[List.filter_append,zAG,zBS]
 by_cases e:m.name=nm
 ·rw[if_neg (by simp[e]),if_pos e];rfl
 ·rw[if_pos (by simp[e]),if_neg e];rfl
end Go.Proofs.YticdfkoncnnmmaaGreatDoor
