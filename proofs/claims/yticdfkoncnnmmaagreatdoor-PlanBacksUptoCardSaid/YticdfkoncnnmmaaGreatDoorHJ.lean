import Derived.Test.YticdfkoncnnmmaaGreatDoorHF
import Derived.Test.YticdfkoncnnmmaaGreatDoorG1
import Derived.Test.YticdfkoncnnmmaaGreatDoorHB
import Derived.Test.YticdfkoncnnmmaaGreatDoorHE
import Derived.Test.YticdfkoncnnmmaaGreatDoorGU
import Derived.Test.YticdfkoncnnmmaaGreatDoorH0
set_option linter.unusedSimpArgs false
set_option linter.unusedVariables false
set_option maxRecDepth 100000
namespace Go.Proofs.YticdfkoncnnmmaaGreatDoor
open Go.X Go.X.Diff
structure zTy (P:zA1)(H:zAx)(x:PW):Prop where
 m:zLd P H x.1.1 x.1.2.1 x.1.2.2.1 x.1.2.2.2
 f:BSS P P H x.2.1 x.2.2
theorem zTy.keep {P S:zA1}{H H':zAx}{x:PW}(h:zTy P H x)(k:Keep S H H')(hs:∀ b,P b->¬ S b):zTy P H' x:=⟨h.m.keep k hs,h.f.keep k hs hs⟩
structure zRp (P:zA1)(H:zAx)(v:Value)(pv:List PW):Prop where
 h:SlE 9 P H v (pv.map pvC)
 m:∀ x∈pv,zTy P H x
 hl:pv.length<=9223372036854775807
theorem zRp.keep {P S:zA1}{H H':zAx}{v:Value}{pv:List PW}(h:zRp P H v pv)(k:Keep S H H')(hs:∀ b,P b->¬ S b):zRp P H' v pv:=⟨h.h.keep k hs,λx hx=>(h.m x hx).keep k hs,h.hl⟩
theorem zRp.len {P:zA1}{H:zAx}{v:Value}{pv:List PW}(h:zRp P H v pv):lenV v=some (.int .i64 (pv.length:Nat)):=by have:=h.h.len;rwa [zAd]at this
structure zZv where
 mv:List MV
 pv:List PW
 ask:zSe
def zAmA (vi vp:Value)(a:zSe):List Value:=vi::vp::zVN a
structure zAnC (P:zA1)(H:zAx)(vi vp:Value)(z:zZv):Prop where
 i:zS5 P H vi z.mv
 p:zRp P H vp z.pv
 a:z.ask.wf
end Go.Proofs.YticdfkoncnnmmaaGreatDoor
namespace Go.Proofs.YticdfkoncnnmmaaGreatDoor.Came
open Go.X
theorem zAaT {α:Type}{enc:α->List Value}{Q:α->Prop}:∀ {q:List (List Value)},(∀ x∈q,∃ a,Q a/\x=enc a)->∃ l:List α,q=l.map enc/\∀ a∈l,Q a
 | [],_=>⟨[],rfl,λy h=>by cases h⟩
 | x::q,h=>by
  obtain⟨ys,hy,hw⟩:=zAaT (q:=q) λx hx=>h x (by simp[hx])
  obtain⟨a,ya,rfl⟩:=h x (by simp)
  refine⟨a::ys,by rw[hy];rfl,λz hz=>?_⟩
  rcases zAs.1 hz with rfl|hz
  ·exact ya
  ·exact hw z hz
theorem zAej:prg.underlying zDu=some (.slice zAe):=by kernel_rfl
theorem zAek:prg.underlying zF3=some (.slice zA6):=by kernel_rfl
theorem zAel {α:Type}{enc:α->List Value}{Q:World->α->Prop}{n:Nat}{TS T:TypeId}(hn:0<n)(hu:prg.underlying TS=some (.slice T))(hc:prg.cellsOf T=n)(hone:∀ w a,Q w a->∀ c∈enc a,c.oneCell'=true)(hof:∀ (w:World) (d:Nat) (cs:List Value),Shp prg w d T cs->∃ a,Q w a/\cs=enc a)
  {w:World} {d:Nat} {v:Value} (h:Shp prg w d TS [v]):∃ xs:List α,xs.length<=9223372036854775807/\SlE n (· < w.heap.size) w.heap v (xs.map enc)/\∀ x∈xs,Q w x:=by
 cases d with
 | zero=>exact h.elim
 | succ d =>
  simp only[Shp,hu]at h
  rcases h with h|⟨a,len,cap,hv,hle,hcap,hel⟩
  ·obtain rfl:v = .slice none 0 0:=by simpa using h
   exact⟨[],by simp,SlE.nil,λx h=>by cases h⟩
  ·obtain rfl:v = .slice (some a) len cap:=by simpa using hv
   rw[hc]at hel
   obtain⟨q,hq,hs,hqi⟩:=zJl (n:=n) (q:=λcs=>∃ a,Q w a/\cs=enc a) hn hle (λcs ⟨x,hx,e⟩ c hc=>by subst e;exact hone w x hx c hc) λi hi=>by
    obtain⟨cs',h1,h2⟩:=hel i hi
    exact⟨cs',h1,hof _ _ _ h2⟩
   obtain⟨xs,rfl,hw⟩:=zAaT hqi
   have hm:maxLen=9223372036854775807:=rfl
   rw[zAd]at hq
   exact⟨xs,by omega,hs,hw⟩
theorem zAk5 {w:World}{d:Nat}{v:Value}(h:Shp prg w d zDu [v]):∃ mv:List MV,mv.length<=9223372036854775807/\zS5 (· < w.heap.size) w.heap v mv:=by
 obtain⟨xs,h1,h2,h3⟩:=zAel (enc:=mvC) (Q:=λw x=>zLd (· < w.heap.size) w.heap x.1 x.2.1 x.2.2.1 x.2.2.2) (n:=8) (by omega) zAej zAde (λw a ha=>ha.one) (λw d cs hs=>by
  obtain⟨m,vd,vc,vf,hm,e⟩:=zAgZ hs
  exact⟨(m,vd,vc,vf),hm,e⟩) h
 exact⟨xs,h1,h2,h3,h1⟩
theorem zAmB:zAfu zA6 [(0,zAe),(8,zMH)]=true:=by kernel_rfl
theorem zAhq:prg.cellsOf zA6=9:=by kernel_rfl
theorem zAjh:prg.cellsOf zMH=1:=by kernel_rfl
theorem zAk6 {w:World}{d:Nat}{cs:List Value}(h:Shp prg w d zA6 cs):∃ x:PW,zTy (· < w.heap.size) w.heap x/\cs=pvC x:=by
 obtain⟨d',hl,hfl⟩:=zOP zAmB h
 rw[zAhq]at hl
 have h0:=hfl 0 0 zAe rfl
 have h1:=hfl 1 8 zMH rfl
 rw[zAde]at h0;rw[zAjh]at h1
 obtain⟨m,vd,vc,vf,hm,e0⟩:=zAgZ h0
 have e1:(cs.drop 8).take 1=[cs[8]'(by omega)]:=by
  rw[zBU (by omega)];rfl
 rw[e1]at h1
 obtain⟨xs,hxl,hx⟩:=zAkw h1
 refine⟨((m,vd,vc,vf),_,xs),⟨hm,hx⟩,?_⟩
 have e2:cs=(cs.drop 0).take 8++(cs.drop 8).take 1:=by
  rw[zB4,zAr (l:=cs.drop 8) (by simp;omega),zBl]
 rw[e0,e1]at e2
 exact e2
theorem zAk7 {w:World}{d:Nat}{v:Value}(h:Shp prg w d zF3 [v]):∃ pv:List PW,pv.length<=9223372036854775807/\zRp (· < w.heap.size) w.heap v pv:=by
 obtain⟨xs,h1,h2,h3⟩:=zAel (enc:=pvC) (Q:=λw x=>zTy (· < w.heap.size) w.heap x) (n:=9) (by omega) zAek zAhq (λw a ha c hc=>by
  rcases zAp.1 hc with hc|hc
  ·exact zFP (x:=a.1) ha.m c hc
  ·rw[zAD.1 hc];exact ha.f.sl.oneC) (λw d cs hs=>zAk6 hs) h
 exact⟨xs,h1,h2,h3,h1⟩
end Go.Proofs.YticdfkoncnnmmaaGreatDoor.Came
namespace Go.Proofs.YticdfkoncnnmmaaGreatDoor
open Go.X Go.X.Diff Go.MapKept
theorem zVP {l:List Man}{ps:List (List UInt8)}{of:zTr}(h:zW2 ps of l=0):(l.map (·.name)).Nodup/\∀ m∈l,m.name∉ps:=zAmt h
def upB (hv:List Man)(i:Nat):Bool:=decide (i=0) || decide (zJH (gM hv (i-1)).name (gM hv i).name<0)
def zRq (hv:List Man):Bool:=(List.range hv.length).all (upB hv)
theorem zUP {hv:List Man}{i:Nat}(h:i<hv.length):gM hv i=hv[i]:=by
 unfold gM;rw[zCk,zAj h];rfl
theorem zAmC {hv:List Man}{i:Nat}(h:i<hv.length):gM hv i∈hv:=by rw[zUP h];exact zAH h
theorem zWU {hv:List Man}(h:(hv.map (·.name)).Nodup){i j:Nat}(hi:i<hv.length)(hj:j<hv.length)(e:(gM hv i).name=(gM hv j).name):i=j:=by
 have hp:=zBH.1 (zBu.1 h)
 rw[zUP hi,zUP hj]at e
 rcases Nat.lt_trichotomy i j with c|c|c
 ·exact absurd e (hp i j hi hj c)
 ·exact c
 ·exact absurd e.symm (hp j i hj hi c)
theorem zUQ {hv:List Man}:zC0 hv=(decide (zW2 [] [] hv=0)&&zRq hv):=by
 unfold zC0
 by_cases h0:zW2 [] [] hv=0
 ·have hn:=(zVP h0).1
  rw[decide_eq_true h0,zBa,zBa]
  unfold zAi1 zRq
  rw[zAR,zAw,zAw]
  refine forall_congr' λi=>forall_congr' λhi=>?_
  have hi':=zBC.1 hi
  unfold zS1 upB
  by_cases e:i=0
  ·simp[e]
  ·have ht:=zFb.turn (gM hv (i-1)).name (gM hv i).name
   have hne:zJH (gM hv (i-1)).name (gM hv i).name≠0:=λhz=>by
    have:=zWU hn (by omega) hi' ((zFb.zero _ _).1 hz)
    omega
   simp only[decide_eq_false e,zCs,zBt,decide_eq_false_iff_not,decide_eq_true_eq]
   omega
 ·rw[decide_eq_false h0];rfl
theorem zAem {a b c:List UInt8}(h1:zJH a b<0)(h2:zJH b c<0):zJH a c<0:=by
 have h:=zFb.trans (Int.le_of_lt h1) (Int.le_of_lt h2)
 rcases Int.lt_or_eq_of_le h with h|h
 ·exact h
 ·have e:=(zFb.zero _ _).1 h
  subst e
  have:=zFb.turn a b
  omega
theorem zP9 {hv:List Man}(h:zC0 hv=true):(hv.map (·.name)).Nodup:=by
 rw[zUQ,zAk]at h
 exact(zVP (of_decide_eq_true h.1)).1
theorem zVQ {hv:List Man}(h:zC0 hv=true){x y:Man}(hx:x∈hv)(hy:y∈hv)(e:x.name=y.name):x=y:=by
 obtain⟨i,hi,rfl⟩:=zBK hx
 obtain⟨j,hj,rfl⟩:=zBK hy
 have:=zWU (zP9 h) hi hj (by rw[zUP hi,zUP hj];exact e)
 subst this;rfl
theorem zQv {hv:List Man}(h:zC0 hv=true):∀ m∈hv,zEC m=true:=by
 rw[zUQ,zAk]at h
 exact zZq (of_decide_eq_true h.1)
theorem zVR {m:Man}(h:zEC m=true):zG5 m.ver=true:=by
 unfold zEC zY5 at h
 simp only[zAk]at h
 exact h.1.1.1.2
abbrev IT:=List UInt8×List UInt8×List UInt8
def itT (m:Man):IT:=(m.name,zHO m.ver,zAbe (0::zYi m))
def zFQ (a b:List IT):List IT:=a.filter λx=>!b.any λy=>decide (x=y)
theorem zAji {x y:Man}(wx:x.wf)(wy:y.wf)(hx:zEC x=true)(hy:zEC y=true)(h:itT x=itT y):x.name=y.name/\x.ver=y.ver:=by
 unfold itT at h
 simp only[Prod.mk.injEq]at h
 exact⟨h.1,zAaa wx.ver.p3 wy.ver.p3 (zVR hx) (zVR hy) h.2.1⟩
theorem zYk {hv:List Man}{m:Man}:zG9 hv m=true↔m∈hv:=by
 unfold zG9
 rw[zBz]
 constructor
 ·rintro⟨o,ho,e⟩;rw[zSb]at e;exact e ▸ ho
 ·exact λh=>⟨m,h,zSb.2 rfl⟩
theorem zAga {hv:List Man}{m:Man}:zG9 hv m=false↔m∉hv:=by
 rw[<- zYk];simp
theorem zVS {a b:List Man}(hk:∀ x∈a,∀ y∈b,x.name=y.name->x.ver=y.ver->x=y)(wa:∀ x∈a,x.wf)(wb:∀ x∈b,x.wf)(oa:∀ x∈a,zEC x=true)(ob:∀ x∈b,zEC x=true) :
  zFQ (a.map itT) (b.map itT)=(a.filter λm=>!zG9 b m).map itT:=by
 unfold zFQ
 rw[List.filter_map]
 congr 1
 apply List.filter_congr
 intro m hm
 show(!(b.map itT).any λy=>decide (itT m=y)) = !zG9 b m
 congr 1
 rw[zAR,zYk,zBz]
 constructor
 ·rintro⟨_,hz,e⟩
  obtain⟨y,hy,rfl⟩:=zAo.1 hz
  obtain⟨e1,e2⟩:=zAji (wa m hm) (wb y hy) (oa m hm) (ob y hy) (of_decide_eq_true e)
  rw[hk m hm y hy e1 e2];exact hy
 ·exact λh=>⟨itT m,zAo.2 ⟨m,h,rfl⟩,by simp⟩
def zNE (inst dr:List Man)(ad:List Pk)(af:List Man):Bool :=
 ad.all zTL&&zC0 af&&decide (dr.map itT=zFQ (inst.map itT) (af.map itT))&&decide ((ad.map (·.1)).map itT=zFQ (af.map itT) (inst.map itT))
theorem zU7 {inst goal:List Man}{l:List Pk}(hl:∀ x∈l,zTL x=true)(hi:zC0 inst=true)(hg:zC0 goal=true)(wi:∀ x∈inst,x.wf)(wg:∀ x∈goal,x.wf)
  (hk:∀ x∈inst,∀ y∈goal,x.name=y.name->x.ver=y.ver->x=y) (ha:∀ m∈goal,m∉inst->zJA l m∈l/\(zJA l m).1=m) :
  zNE inst (inst.filter λm=>!zG9 goal m) ((goal.filter λm=>!zG9 inst m).map (zJA l)) goal=true:=by
 have ha':∀ m∈goal.filter (λm=>!zG9 inst m),zJA l m∈l/\(zJA l m).1=m:=λm hm=>by
  obtain⟨h1,h2⟩:=zBd.1 hm
  exact ha m h1 (zAga.1 (by simpa using h2))
 unfold zNE
 simp only[zAk,decide_eq_true_eq,zAw]
 refine⟨⟨⟨λx hx=>?_,hg⟩,(zVS hk wi wg (zQv hi) (zQv hg)).symm⟩,?_⟩
 ·obtain⟨m,hm,rfl⟩:=zAo.1 hx
  exact hl _ (ha' m hm).1
 ·have e:((goal.filter λm=>!zG9 inst m).map (zJA l)).map (·.1)=goal.filter λm=>!zG9 inst m:=by
   rw[List.map_map]
   exact(zBW λm hm=>(ha' m hm).2).trans (List.map_id' _)
  rw[e,zVS (λx hx y hy e1 e2=>(hk y hy x hx e1.symm e2.symm).symm) wg wi (zQv hg) (zQv hi)]
theorem zVT {inst:List Man}{l:List Pk}{m:Man}(h:m∈inst):m∈zDN inst l:=zAp.2 (.inl h)
def itC (x:IT):List Value:=[str x.1,str x.2.1]++zBs x.2.2
theorem zQa {x:IT}(h:x.2.2.length=32):(itC x).length=34:=by simp[itC,h]
theorem zZw {x:IT}:∀ c∈itC x,c.oneCell'=true:=λc hc=>by
 rcases zAp.1 hc with hc|hc
 ·simp at hc;rcases hc with rfl|rfl<;>rfl
 ·obtain⟨b,_,rfl⟩:=zAo.1 hc;rfl
def zIT:IT:=([],[],List.replicate 32 0)
theorem zAnd:zBI prg zBM=some (itC zIT).toArray:=by kernel_rfl
theorem zAne {x y:IT}(hx:x.2.2.length=32)(hy:y.2.2.length=32):zAB (eqK prg zBM) .neq (.agg (itC x).toArray) (.agg (itC y).toArray)=some (.bool (!decide (x=y)))/\zAB (eqK prg zBM) .eql (.agg (itC x).toArray) (.agg (itC y).toArray)=some (.bool (decide (x=y))):=by
 have q:eqK prg zBM = .flat ([2]++([2]++List.replicate 32 0)):=by kernel_rfl
 have hs:zCw (List.replicate 32 0) (zBs x.2.2) (zBs y.2.2)=some (decide (x.2.2=y.2.2)):=by
  have:=zJ0 (l:=x.2.2) (m:=y.2.2) (by rw[hx,hy])
  rwa [hx]at this
 have h1:=zFO (k1:=[2]) (a1:=[str x.2.1]) (b1:=[str y.2.1]) rfl rfl zG6 hs
 have h2:=zFO (k1:=[2]) (a1:=[str x.1]) (b1:=[str y.1]) rfl rfl zG6 h1
 have he:zCw ([2]++([2]++List.replicate 32 0)) (itC x) (itC y)=some (decide (x=y)):=by
  show zCw ([2]++([2]++List.replicate 32 0)) ([str x.1]++([str x.2.1]++zBs x.2.2)) ([str y.1]++([str y.2.1]++zBs y.2.2))=_
  rw[h2]
  congr 1
  obtain⟨a,b,c⟩:=x
  obtain⟨a',b',c'⟩:=y
  rw[zAR]
  simp
 constructor
 ·rw[zMJ,q]
  show(zCw ([2]++([2]++List.replicate 32 0)) (itC x).toArray.toList (itC y).toArray.toList).map (λb=>Value.bool (!b))=_
  rw[zA9,zA9,he];rfl
 ·rw[zMI,q]
  show(zCw ([2]++([2]++List.replicate 32 0)) (itC x).toArray.toList (itC y).toArray.toList).map Value.bool=_
  rw[zA9,zA9,he];rfl
theorem zAnD {a b s:List UInt8}(hs:s.length=32):zCM prg zBM [(0,str a),(1,str b),(2,bv s)]=some (.agg (itC (a,b,s)).toArray):=by
 have k:zLM prg zBM=some ([(0,1),(1,1),(2,32)],(itC zIT).toArray):=by kernel_rfl
 have hz:(itC zIT).toArray.size=34:=by simp[itC,zIT]
 have c1:(str a).cells.size=1:=rfl
 have c2:(str b).cells.size=1:=rfl
 have c3:(bv s).cells.size=32:=by show(zBs s).toArray.size=32;simp[hs]
 have t1:(spl (itC zIT).toArray 0 (str a).cells).size=34:=by rw[zI0 (by omega),hz]
 have t2:(spl (spl (itC zIT).toArray 0 (str a).cells) 1 (str b).cells).size=34:=by rw[zI0 (by omega),t1]
 rw[zHZ k,zGH (off:=0) (n:=1) rfl rfl (by omega),zGH (off:=1) (n:=1) rfl rfl (by omega),zGH (off:=2) (n:=32) rfl c3 (by omega),zRK]
 have hl:spl (spl (spl (itC zIT).toArray 0 (str a).cells) 1 (str b).cells) 2 (bv s).cells=(itC (a,b,s)).toArray:=by
  apply Array.ext'
  have e1:(spl (spl (itC zIT).toArray 0 (str a).cells) 1 (str b).cells).toList=[str a,str b]++zBs (List.replicate 32 0):=rfl
  have e3:(bv s).cells=(zBs s).toArray:=rfl
  unfold spl at e1 ⊢
  rw[e3]
  simp only[zB7]at e1 ⊢
  rw[e1]
  simp[hs,itC]
 rw[hl];rfl
theorem zAhr {x:IT}(h:x.2.2.length=32):zF6 prg zBM 1 [(0,.agg (itC x).toArray)]=some (itC x).toArray :=
 zUn (by kernel_rfl:prg.cellsOf zBM=34) (by omega) (by omega) zAnd (by simp[itC,zIT]) (by simp[zQa h])
theorem zAgb {P:zA1}{H:zAx}{x:MV}(hm:zLd P H x.1 x.2.1 x.2.2.1 x.2.2.2)(hsx:x.1.deps.length<=1000/\x.1.conf.length<=1000)(hP:∀ b,P b->b<H.size)(hT:zWz H)(hS:zRs H) :
  zAA prg zIo [.agg (mvC x).toArray] H λu H'=>u = .agg (itC (itT x.1)).toArray/\Keep No H H':=by
 apply zMV
 unfold zLq
 have w:=hm.wf
 simp only[zB8,zBb,zAnd,zBf,zAi,zAu,zAa]
 generalize hH1:H.push (.cells (mvC x).toArray zAe (0,0))=h1
 have k1:Keep No H h1:=by rw[<- hH1];exact Keep.push
 have a1:At h1 H.size (mvC x):=by rw[<- hH1];exact At.push
 have s1:h1.size=H.size+1:=by rw[<- hH1];simp
 generalize hH2:h1.push (.cells (itC zIT).toArray zBM (0,0))=h2
 have k2:Keep No h1 h2:=by rw[<- hH2];exact Keep.push
 have a2:At h2 h1.size (itC zIT):=by rw[<- hH2];exact At.push
 have k02:=k1.trans k2
 have a12:At h2 H.size (zGN x.1 x.2.1 x.2.2.1 x.2.2.2):=a1.keep k2 id
 rw[zDz a12,zAa,zHu a12 w,zAa,a12.ldN (zBB w),zAa]
 refine zAI (zWm w.ver (hT.keep k02 λ_ h=>h.elim).pow) ?_
 rintro _ h3 ⟨rfl,k3⟩
 have a13:=a12.keep k3 id
 have k03:=k02.trans k3
 have g03:=k03.1
 rw[a13.ldN (zBB w),zDz a13,zBp,zBp,zA8]
 refine zAI (zUO (hm.keep k03 λ_ _=>id) (λb hb=>by have:=hP b hb;omega) (by omega) (by omega) (hT.keep k03 λ_ h=>h.elim).ops (hT.keep k03 λ_ h=>h.elim).pow) ?_
 rintro t9 h4 ⟨sl,k4⟩
 have a14:=a13.keep k4 id
 rw[zDz a14,zBp,zA8]
 have hln:=zSj w.files λh=>zTO w h (by omega) (by omega)
 have k04:=k03.trans k4
 refine zAI (zUL sl (hS.keep k04 λ_ h=>h.elim) (λb hb=>hb.2) (by omega)) ?_
 rintro _ h5 ⟨rfl,k5⟩
 have a15:=a14.keep k5 id
 rw[zDz a15,zBp,zA8,zAnD zFa,zAa]
 obtain⟨h6,st6,a6,k6⟩:=(((a2.keep k3 id).keep k4 id).keep k5 id).st (n:=34) (ds:=itC (itT x.1)) (by simp[itC,zIT]) (zQa zFa) zZw
 exact⟨h6,st6,zBP (a6.ldN (zQa zFa)) ⟨rfl,(k04.trans k5).fresh k6 λb e=>by omega⟩⟩
abbrev zLD (mv:List MV):List IT:=mv.map λx=>itT x.1
theorem zNa {P:zA1}{H:zAx}{v:Value}{mv:List MV}(hp:zLB P H v mv)(hP:∀ b,P b->b<H.size)(hl:mv.length<=1000)(hT:zWz H)(hS:zRs H) :
  zAA prg zDb [v] H λu H'=>BufE 34 (λb=>H.size<=b/\b<H'.size) H' u ((zLD mv).map itC)/\Keep No H H':=by
 apply zMq
 unfold zKx
 refine zTJ hp.len (λi w h=>BufE 34 (λb=>H.size<=b) h w ((zLD (mv.take i)).map itC)/\Keep No H h) (λw h=>BufE 34 (λb=>H.size<=b) h w ((zLD mv).map itC)/\Keep No H h) ⟨BufE.nil,Keep.refl⟩ (λw h hI=>by rwa [zBE]at hI) ?_ λw _ h hE=>⟨BufE.re hE.1 λb hb hF=>⟨hF,hb⟩,hE.2⟩
 rintro i w h hlt ⟨hb,kh⟩ k1 k3 _ hk3
 obtain⟨x,hx,hm⟩:=zPs hlt
 have hpx:=hp.keep kh λ_ _=>id
 have wx:=(hp.m x hm).wf
 have g0:=kh.1
 refine zAex hpx.h (zIl hx) zL8 (zBB zOr) λh6 a6 k6=>?_
 have g6:=k6.1
 have k06:=kh.trans k6
 refine zBP (a6.ldN (zBB wx)) ?_
 refine zAI (zAgb ((hp.keep k06 λ_ _=>id).m x hm) (hp.sm x hm) (λb hb=>by have:=hP b hb;omega) (hT.keep k06 λ_ h=>h.elim) (hS.keep k06 λ_ h=>h.elim)) ?_
 rintro _ h7 ⟨rfl,k7⟩
 have k67:=k6.trans k7
 have g7:=k67.1
 refine zAaI (hb.keep k67 λ_ _=>id) (zAhr zFa) (zQa zFa) zZw (by omega) (by simp;omega) (by omega) λu h8 bu k8=>?_
 refine zLC hlt (by omega) (hk3 _ _ ⟨?_,(kh.trans k67).fresh k8 λb hb=>hb⟩)
 rw[zAG,hx]
 simpa [zLD] using bu
theorem zWV {P Q:zA1}{H:zAx}{v w:Value}{xs ys:List IT}(hv:SlE 34 P H v (xs.map itC))(hw:SlE 34 Q H w (ys.map itC))(hx:∀ x∈xs,x.2.2.length=32)(hy:∀ y∈ys,y.2.2.length=32)(hl:xs.length<=1099511627776) :
  zAA prg zFk [v,w] H λu H'=>u = .bool (decide (xs=ys))/\H=H':=by
 apply zMS
 exact zZm (K:=eqK prg zBM) hv hw (λx h1 y h2=>(zAne (hx x h1) (hy y h2)).1) hl
theorem zAnf {a b:List UInt8}{q:EqK}:zAB q .geq (str a) (str b)=some (.bool (!decide (zJH a b<0))):=by
 rw[<- zWM,zGf];exact zWj
theorem zAhs {mv:List MV}{i:Nat}{x:MV}(h:mv[i]? = some x):((zLD mv).map itC)[i]? = some (itC (itT x.1)):=zIl (zIl (f:=λx:MV=>itT x.1) h)
theorem zAjj {mv:List MV}:((zLD mv).map itC).length=mv.length:=by simp[zLD]
theorem zAgc {P:zA1}{H:zAx}{v:Value}{mv:List MV}(hv:SlE 34 P H v ((zLD mv).map itC))(hl:mv.length<=1000) :
  zAA prg zHk [v] H λu H'=>u = .bool (zRq (zCi mv))/\H=H':=by
 apply zLS
 unfold zJ8
 have hlen:=hv.len
 rw[zAjj]at hlen
 have hvl:(zCi mv).length=mv.length:=by simp
 refine zOt (λ_ h=>zRq (zCi mv)=true/\H=h) (λk1 hk1=>?_) λ_ h hI=>⟨by rw[hI.1],hI.2⟩
 refine zAkS (s:=1) hlen (λi h=>(∀ j,j<i->upB (zCi mv) j=true)/\H=h) ⟨λj hj=>(by
  obtain rfl:j=0:=by omega
  rfl),rfl⟩ (λi h hi hI=>hk1 _ _ ⟨?_,hI.2⟩) ?_
 ·unfold zRq
  rw[zAw]
  intro j hj
  have:=zBC.1 hj
  exact hI.1 j (by omega)
 rintro i _ h1i hlt ⟨hall,rfl⟩ k3 hk3
 obtain⟨x,hx,_⟩:=zPs (l:=mv) (i:=i-1) (by omega)
 obtain⟨y,hy,_⟩:=zPs hlt
 have es:zAB .no .sub (.int .i64 (i:Nat)) (.int .i64 1)=some (.int .i64 ((i-1:Nat):Int)):=by
  have:=zX0 (i:=i-1) (by omega)
  rwa [show i-1+1=i by omega]at this
 obtain⟨b,o,hix,hpt,_⟩:=hv.at (zAhs hx)
 obtain⟨b',o',hiy,hpt',_⟩:=hv.at (zAhs hy)
 have ub:upB (zCi mv) i=decide (zJH x.1.name y.1.name<0):=by
  unfold upB
  rw[zZc hx,zZc hy,decide_eq_false (by omega),zCs]
 rw[es,zAa,hix .i64,zAa,zBf,zAa,zAu]
 refine zBP (hpt.cell0 rfl) ?_
 rw[hiy .i64,zAa,zBf,zAa,zAu]
 refine zBP (hpt'.cell0 rfl) (zBP zAnf (zRn (λe=>⟨?_,rfl⟩) λe=>zLC (n:=mv.length) hlt (by omega) (hk3 _ ⟨λj hj=>?_,rfl⟩)))
 ·have:zRq (zCi mv)=false:=by
   unfold zRq
   rw[zCt]
   exact⟨i,zBC.2 (by omega),by rw[ub];have e:(!decide (zJH x.1.name y.1.name<0))=true:=e;simpa using e⟩
  rw[this]
 ·by_cases hji:j=i
  ·rw[hji,ub];have e:(!decide (zJH x.1.name y.1.name<0))=false:=e;simpa using e
  ·exact hall j (by omega)
theorem zYl {P Q:zA1}{H:zAx}{v w:Value}{xs ys:List IT}(hv:SlE 34 P H v (xs.map itC))(hw:SlE 34 Q H w (ys.map itC))(hx:∀ x∈xs,x.2.2.length=32)(hy:∀ y∈ys,y.2.2.length=32)(hl:xs.length<=1000)(hl':ys.length<=1000) :
  zAA prg zFr [v,w] H λu H'=>BufE 34 (λb=>H.size<=b/\b<H'.size) H' u ((zFQ xs ys).map itC)/\Keep No H H':=by
 apply zLr
 unfold zJq
 have lv:∀ h,Keep No H h->lenV v=some (.int .i64 (xs.length:Nat)):=λh k=>by have:=hv.len;rwa [zAd]at this
 have lw:∀ h,Keep No H h->lenV w=some (.int .i64 (ys.length:Nat)):=λh k=>by have:=hw.len;rwa [zAd]at this
 refine zMk (λu _ h=>BufE 34 (λb=>H.size<=b) h u ((zFQ xs ys).map itC)/\Keep No H h) (λk1 hk1=>?_) λu _ h hI=>⟨BufE.re hI.1 λb hb hF=>⟨hF,hb⟩,hI.2⟩
 refine zAhj (s:=0) (lv H Keep.refl) (λi u h=>BufE 34 (λb=>H.size<=b) h u ((zFQ (xs.take i) ys).map itC)/\Keep No H h) ⟨BufE.nil,Keep.refl⟩ (λi u h hi hI=>hk1 _ _ _ (by rwa [zAr hi]at hI)) ?_
 rintro i u h _ hlt ⟨hb,kh⟩ k3 hk3
 obtain⟨x,hgx,hxm⟩:=zPs hlt
 have ex:zFQ (xs.take (i+1)) ys=zFQ (xs.take i) ys++if (ys.any λy=>decide (x=y)) then [] else [x]:=by
  unfold zFQ
  rw[zAG,hgx,List.filter_append]
  congr 1
  show List.filter _ [x]=_
  rw[zCd]
  cases (ys.any λy=>decide (x=y))<;>rfl
 refine J3_i (λu' _ _ h'=>BufE 34 (λb=>H.size<=b) h' u' ((zFQ (xs.take (i+1)) ys).map itC)/\Keep No H h') (λk5 hk5=>?_) λu' _ _ h' hI=>zLC hlt (by omega) (hk3 _ _ hI)
 refine zMk (λu7 _ h'=>u7 = .bool (ys.any λy=>decide (x=y))/\h=h') (λk7 hk7=>?_) ?_
 ·refine zAhj (s:=0) (lw H Keep.refl) (λj u7 h'=>u7 = .bool ((ys.take j).any λy=>decide (x=y))/\h=h') ⟨rfl,rfl⟩ (λj u7 h' hj hI=>hk7 _ _ _ (by rwa [zAr hj]at hI)) ?_
  rintro j _ _ _ hj ⟨rfl,rfl⟩ k9 hk9
  obtain⟨y,hgy,hym⟩:=zPs hj
  obtain⟨b,o,hix,hpt,_⟩:=(hv.keep kh λ_ _=>id).at (zIl (f:=itC) hgx)
  obtain⟨b',o',hiy,hpt',_⟩:=(hw.keep kh λ_ _=>id).at (zIl (f:=itC) hgy)
  have est:=zTI (p:=λy=>decide (x=y)) hgy
  refine zWO (λq=>?_) λq=>?_
  ·exact zLC hj (by omega) (hk9 _ _ ⟨by rw[est,q];rfl,rfl⟩)
  ·refine zBP (hix .i64) (zBP (hpt.agg (zQa (hx x hxm))) (zBP (hiy .i64) (zBP (hpt'.agg (zQa (hy y hym))) (zBP (zAne (hx x hxm) (hy y hym)).2 (zLC hj (by omega) (hk9 _ _ ⟨?_,rfl⟩))))))
   rw[est,q];rfl
 rintro _ _ _ ⟨rfl,rfl⟩
 refine zBP rfl (zRn (λe=>?_) λe=>hk5 _ _ _ _ ⟨?_,kh⟩)
 ·have e':(ys.any λy=>decide (x=y))=false:=by simpa using e
  obtain⟨b,o,hix,hpt,_⟩:=(hv.keep kh λ_ _=>id).at (zIl (f:=itC) hgx)
  refine zBP (hix .i64) (zBP (hpt.agg (zQa (hx x hxm))) ?_)
  have hfl:(zFQ (xs.take i) ys).length<=1000:=by
   unfold zFQ
   have:=zBi (λx=>!ys.any λy=>decide (x=y)) (xs.take i)
   rw[zA4]at this;omega
  refine zAaI hb (zAhr (hx x hxm)) (zQa (hx x hxm)) zZw (by omega) (by rw[zAd];omega) kh.1 λu' h' hb' k'=>hk5 _ _ _ _ ⟨?_,kh.fresh k' λb hb=>hb⟩
  rw[ex,e']
  simpa using hb'
 ·have e':(ys.any λy=>decide (x=y))=true:=by simpa using e
  rw[ex,e']
  simpa using hb
theorem zUR {P:zA1}{H:zAx}{v:Value}{mv:List MV}(hp:zLB P H v mv)(hP:∀ b,P b->b<H.size)(hl:mv.length<=1000)(hT:zWz H)(hS:zRs H) :
  zAA prg zES [v] H λu H'=>u = .bool (zC0 (zCi mv))/\Keep No H H':=by
 apply zMp
 unfold zKw
 refine zAI (zAaF hp hP hl hT.ops) ?_
 rintro _ h1 ⟨⟨w,rfl⟩,k1⟩
 have g1:=k1.1
 refine zBP rfl (zBP rfl (zBP eqI ?_))
 rw[zUQ]
 refine zLZ (λe=>?_) λe=>⟨by rw[e];rfl,k1⟩
 refine zAI (zNa (hp.keep k1 λ_ _=>id) (λb hb=>by have:=hP b hb;omega) hl (hT.keep k1 λ_ h=>h.elim) (hS.keep k1 λ_ h=>h.elim)) ?_
 rintro t14 h3 ⟨b3,k3⟩
 refine zAI (zAgc b3.sl hl) ?_
 rintro _ _ ⟨rfl,rfl⟩
 exact⟨by rw[e];rfl,k1.trans k3⟩
theorem zAen:zBI prg zA6=some (pvC zPW).toArray:=zAbE
theorem zTy.one {P:zA1}{H:zAx}{x:PW}(h:zTy P H x):∀ c∈pvC x,c.oneCell'=true:=λc hc=>by
 rcases zAp.1 hc with hc|hc
 ·exact zFP (x:=x.1) h.m c hc
 ·rw[zAD.1 hc];exact h.f.sl.oneC
theorem zWW {h:zAx}{q:Nat}{x:PW}(a:At h q (pvC x))(w:x.1.1.wf):ldN 8 h (Ptr q 0)=some (.agg (mvC x.1).toArray):=zAhl a.pt w
theorem zAnE {h:zAx}{q:Nat}{x:PW}(a:At h q (pvC x))(w:x.1.1.wf):ld1 h (Ptr q 8)=some x.2.1:=a.ld (zS3 w)
abbrev zGU (pv:List PW):List MV:=pv.map (·.1)
theorem zSk {P:zA1}{H:zAx}{v:Value}{pv:List PW}(hp:zRp P H v pv)(hl:pv.length<=1048576) :
  zAA prg zDY [v] H λu H'=>BufE 8 (λb=>H.size<=b/\b<H'.size) H' u ((zGU pv).map mvC)/\Keep No H H':=by
 apply zKl
 unfold zIf
 refine zTJ hp.len (λi w h=>BufE 8 (λb=>H.size<=b) h w ((zGU (pv.take i)).map mvC)/\Keep No H h) (λw h=>BufE 8 (λb=>H.size<=b) h w ((zGU pv).map mvC)/\Keep No H h) ⟨BufE.nil,Keep.refl⟩ (λw h hI=>by rwa [zBE]at hI) ?_ λw _ h hE=>⟨BufE.re hE.1 λb hb hF=>⟨hF,hb⟩,hE.2⟩
 rintro i w h hlt ⟨hb,kh⟩ k1 k3 _ hk3
 obtain⟨x,hx,hm⟩:=zPs hlt
 have hpx:=hp.keep kh λ_ _=>id
 have wx:=(hp.m x hm).m.wf
 have g0:=kh.1
 refine zAex hpx.h (zIl hx) zAen (zD1 zQZ) λh6 a6 k6=>?_
 have g6:=k6.1
 rw[zBf,zAa,zAu]
 refine zBP (zWW a6 wx) ?_
 refine zAaI (hb.keep k6 λ_ _=>id) (zNY (zBB wx)) (zBB wx) (zFP (x:=x.1) (hp.m x hm).m) (by omega) (by simp;omega) (by omega) λu h8 bu k8=>?_
 refine zLC hlt (by omega) (hk3 _ _ ⟨?_,(kh.trans k6).fresh k8 λb hb=>hb⟩)
 rw[zAG,hx]
 simpa [zGU] using bu
theorem zRp.mans {P:zA1}{H H':zAx}{v u:Value}{pv:List PW}(hp:zRp P H v pv)(k:Keep No H H')(b:BufE 8 (λb=>H.size<=b/\b<H'.size) H' u ((zGU pv).map mvC)):zS5 (λb=>P b\/(H.size<=b/\b<H'.size)) H' u (zGU pv) :=
 ⟨b.sl.mono λ_ => .inr,λx hx=>by
  obtain⟨y,hy,rfl⟩:=zAo.1 hx
  exact((hp.m y hy).m.keep k λ_ _=>id).mono λ_ => .inl,by rw[zAd];exact hp.hl⟩
def zQb (l:List Pk):List Pk:=l.foldl zSr []
theorem zQw {l:List Pk}{x:Pk}:zQb (l++[x])=zSr (zQb l) x:=by unfold zQb;rw[List.foldl_append];rfl
theorem zYm {l:List Pk}{x:Pk}:(zAbF l x=0/\zSr l x=l++[x])\/zSr l x=l:=by
 unfold zAbF zSr
 cases hk:zTL x
 ·right;rfl
 ·cases hf:l.find? (zJy x.1.name x.1.ver) with
  | some y=>right;rfl
  | none =>
   by_cases h:l.length=256
   ·right;simp[h]
   ·left;simp[h]
theorem zAjk {l:List Pk}{x:Pk}:(zSr l x).length<=l.length+1:=by
 rcases zYm (l:=l) (x:=x) with ⟨_,h⟩|h<;>rw[h]<;>simp
theorem zAjl {l:List Pk}{x:Pk}(h:∀ y∈l,zTL y=true):∀ y∈zSr l x,zTL y=true:=by
 unfold zSr
 cases hk:zTL x
 ·exact h
 ·cases hf:l.find? (zJy x.1.name x.1.ver) with
  | some y=>exact h
  | none =>
   simp only[zAc,if_false]
   split
   ·exact h
   ·intro y hy
    rcases zAp.1 hy with hy|hy
    ·exact h y hy
    ·rw[zAD.1 hy];exact hk
theorem zAgd {l:List Pk}:∀ y∈zQb l,zTL y=true:=by
 have:∀ (l m:List Pk),(∀ y∈m,zTL y=true)->∀ y∈l.foldl zSr m,zTL y=true:=λl=>by
  induction l with
  | nil=>exact λm h=>h
  | cons x l ih=>exact λm h=>ih _ (zAjl h)
 exact this l [] λy h=>by cases h
theorem zAaU {l:List Pk}:(zQb l).length<=l.length:=by
 have:∀ (l m:List Pk),(l.foldl zSr m).length<=m.length+l.length:=λl=>by
  induction l with
  | nil=>exact λm=>by simp
  | cons x l ih =>
   intro m
   have h1:=ih (zSr m x)
   have h2:=zAjk (l:=m) (x:=x)
   rw[zAS]
   show(l.foldl zSr (zSr m x)).length<=_
   omega
 simpa [zQb] using this l []
structure zAbJ (P:zA1)(n0:Nat)(l:List Pk)(h:zAx)(R F:zA1)(p:Nat)(w:Value)(out:List PW):Prop where
 q:zPr R p l h
 b:BufE 9 F h w (out.map pvC)
 e:out.map zJg=l
 rb:∀ b,R b->n0<=b
 fb:∀ b,F b->n0<=b/\b<h.size/\¬ R b
theorem zAbJ.keep {P:zA1}{n0:Nat}{l:List Pk}{h h':zAx}{R F:zA1}{p:Nat}{w:Value}{out:List PW}(u:zAbJ P n0 l h R F p w out)(k:Keep No h h'):zAbJ P n0 l h' R F p w out :=
 ⟨u.q.keep k λ_ _=>id,u.b.keep k λ_ _=>id,u.e,u.rb,λb hb=>⟨(u.fb b hb).1,zAM (u.fb b hb).2.1 k.1,(u.fb b hb).2.2⟩⟩
theorem zAk8 {n m:Nat}:zAB .no .gtr (.int .i64 (n:Nat)) (.int .i64 (m:Nat))=some (.bool (decide (n > m))):=zAbu
theorem zAge {P:zA1}{H:zAx}{v:Value}{pv:List PW}(hp:zRp P H v pv)(hs:zP8 (zGU pv))(hP:∀ b,P b->b<H.size)(hl:pv.length<=100)(hT:zWz H)(hS:zRs H)(hNG:NG<=H.size) :
  zAA prg zIn [v] H λu H'=>(∃ R F p w out,u = .tuple #[Ptr p 0,w]/\zAbJ P H.size (zQb (pv.map zJg)) H' R F p w out/\∀ x∈out,x∈pv)/\Keep No H H':=by
 apply zMR
 unfold zLn
 refine zAI zYe ?_
 rintro _ h1 ⟨rfl,q1,k1⟩
 have g1:=k1.1
 have pn:zAB .ptr .eql (Ptr H.size 0) (.pointer none)=some (.bool false):=rfl
 refine zBP pn (zNX rfl ?_)
 let I:List PW->zAm:=λl w h=>(∃ R F out,zAbJ P H.size (zQb (l.map zJg)) h R F H.size w out/\∀ x∈out,x∈pv)/\Keep No H h
 refine zTJ hp.len (λi w h=>I (pv.take i) w h) (λw h=>I pv w h) ⟨⟨(· = H.size),No,[],⟨q1,BufE.nil,rfl,λb hb=>by omega,λb hb=>hb.elim⟩,λx h=>by cases h⟩,k1⟩ (λw h hI=>by rwa [zBE]at hI) ?_ ?_
 rotate_left
 ·rintro w _ h ⟨⟨R,F,out,hu,ho⟩,k⟩
  exact⟨⟨R,F,H.size,w,out,rfl,hu,ho⟩,k⟩
 rintro i w h hlt ⟨⟨R,F,out,hu,ho⟩,kh⟩ k2 k4 _ hk4
 obtain⟨x,hx,hm⟩:=zPs hlt
 have hpx:=hp.keep kh λ_ _=>id
 have hrx:=hp.m x hm
 have wx:=hrx.m.wf
 have g0:=kh.1
 have hsx:=hs x.1 (zAo.2 ⟨x,hm,rfl⟩)
 have htk:(pv.take (i+1)).map zJg=(pv.take i).map zJg++[zJg x]:=by rw[zAG,hx];simp
 have hpl:(zQb ((pv.take i).map zJg)).length<=100:=by
  have:=zAaU (l:=(pv.take i).map zJg)
  rw[zAd,zA4]at this;omega
 refine zMk (λw' _ h'=>I (pv.take (i+1)) w' h') (λk6 hk6=>?_) λw' _ h' hI=>zLC hlt (by omega) (hk4 _ _ hI)
 refine zAex hpx.h (zIl hx) zAen (zD1 zQZ) λh9 a9 k9=>?_
 have hu9:=hu.keep k9
 refine zAI (zSc hu9.q) ?_
 rintro _ _ ⟨rfl,rfl⟩
 have k09:=kh.trans k9
 have g09:=k09.1
 have hxin:zAfY P h9 x:=⟨hrx.m.keep k09 λ_ _=>id,hrx.f.keep k09 (λ_ _=>id) λ_ _=>id,by have:=hsx.2.2.1;omega,by have:=hsx.2.2.2.1;omega,by have:=hsx.2.2.2.2;omega⟩
 refine zBP (a9.ldN (zD1 wx)) ?_
 refine zAI (zAi3 hu9.q hxin (λb hb=>by have:=hP b hb;omega) (by omega) (hT.keep k09 λ_ h=>h.elim).ops (hS.keep k09 λ_ h=>h.elim)) ?_
 rintro _ h11 ⟨rfl,⟨R',q',hR'⟩,k11⟩
 have g9:=k9.1
 have g11:=k11.1
 have hRl:∀ b,R b->b<h.size:=by obtain⟨_,_,_,_,_,_,_,_,_,_,_,z⟩:=hu.q;exact z
 have a11:At h11 h.size (pvC x):=a9.keep k11 λhb=>by have:=hRl _ hb;omega
 have k011:Keep No H h11:=k09.fresh k11 λb hb=>hu.rb b hb
 have b11:=hu9.b.keep k11 λb hb hR=>(hu.fb b hb).2.2 hR
 have hu11:zAbJ P H.size (zSr (zQb ((pv.take i).map zJg)) (zJg x)) h11 R' F H.size w out->True:=λ_=>trivial
 have hR0:∀ b,R' b->H.size<=b:=λb hb=>(hR' b hb).elim (hu.rb b) λhb=>by omega
 have hF0:∀ b,F b->H.size<=b/\b<h11.size/\¬ R' b:=λb hb=>⟨(hu.fb b hb).1,by have:=(hu.fb b hb).2.1;omega,λhr=>(hR' b hr).elim (hu.fb b hb).2.2 λhr=>by have:=(hu.fb b hb).2.1;omega⟩
 rcases zYm (l:=zQb ((pv.take i).map zJg)) (x:=zJg x) with ⟨hz,hpp⟩|hpp
 ·refine zBP eqI (zLZ (λ_=>?_) λe=>absurd e (by rw[decide_eq_true hz];decide))
  refine zAI (zSc q') ?_
  rintro _ _ ⟨rfl,rfl⟩
  refine zBP zAk8 (zNn (by rw[hpp];simp) (zBP (a11.ldN (zD1 wx)) ?_))
  have hol:out.length<=100:=by have:=congrArg List.length hu.e;rw[zAd]at this;omega
  refine zAd2 b11 (zZo (zD1 wx)) (zD1 wx) hrx.one (by omega) (by rw[zAd];omega) λu h16 bu k16=>hk6 _ _ _ ⟨⟨R',λb=>F b\/(h11.size<=b/\b<h16.size),out++[x],⟨?_,by rw[zAF];exact bu,?_,hR0,λb hb=>?_⟩,λy hy=>?_⟩,k011.fresh k16 λb hb=>hb.elim (λhb=>(hF0 b hb).1) λhb=>by have:=k011.1;omega⟩
  ·rw[htk,zQw]
   exact q'.keep k16 λb hb hh=>hh.elim (λhF=>(hF0 b hF).2.2 hb) λhh=>by
    obtain⟨_,_,_,_,_,_,_,_,_,_,_,z⟩:=q'
    have:=z b hb;omega
  ·rw[zAF,hu.e,htk,zQw,hpp];rfl
  ·have g16:=k16.1
   rcases hb with hb|hb
   ·exact⟨(hF0 b hb).1,by have:=(hF0 b hb).2.1;omega,(hF0 b hb).2.2⟩
   ·refine⟨by have:=k011.1;omega,hb.2,λhr=>?_⟩
    obtain⟨_,_,_,_,_,_,_,_,_,_,_,z⟩:=q'
    have:=z b hr;omega
  ·rcases zAp.1 hy with hy|hy
   ·exact ho y hy
   ·rw[zAD.1 hy];exact hm
 ·have done:∀ t,k6 w t h11:=λt=>hk6 _ _ _ ⟨⟨R',F,out,⟨by rw[htk,zQw];exact q',b11,by rw[hu.e,htk,zQw,hpp],hR0,hF0⟩,ho⟩,k011⟩
  refine zBP eqI (zLZ (λ_=>?_) λe=>zNX rfl (done _))
  refine zAI (zSc q') ?_
  rintro _ _ ⟨rfl,rfl⟩
  exact zBP zAk8 (zNX (by rw[hpp];simp) (done _))
theorem zAgf {α:Type}{l:List α}{i:Nat}{x:α}{p:α->Bool}(h:l[i]? = some x):(l.take (i+1)).all p=((l.take i).all p&&p x):=by
 rw[zAG,h,zCO];simp
theorem zZx {P Qd Qs Qt:zA1}{H:zAx}{v d s t:Value}{inst dr af:List MV}{ad:List PW}{kind:Int}(hp:zLB P H v inst)(hd:zLB Qd H d dr)(hs:SlE 9 Qs H s (ad.map pvC))(hsm:∀ x∈ad,PkV Qs H x)(ht:zLB Qt H t af)
  (hB:∀ b,P b\/Qd b\/Qs b\/Qt b->b<H.size) (l1:inst.length<=1000) (l2:dr.length<=1000) (l3:ad.length<=1000) (l4:af.length<=1000) (hT:zWz H) (hS:zRs H) :
  zAA prg zGY [v,.agg (chC kind d s t).toArray] H λu H'=>u = .bool (zNE (zCi inst) (zCi dr) (ad.map zJg) (zCi af))/\Keep No H H':=by
 apply zLo
 unfold zJp
 simp only[zB8,zBb,zBf,zAi,zAa]
 generalize hH1:H.push (.cells (chC kind d s t).toArray zBQ (0,0))=h1
 have k1:Keep No H h1:=by rw[<- hH1];exact Keep.push
 have a1:At h1 H.size (chC kind d s t):=by rw[<- hH1];exact At.push
 have g1:=k1.1
 have la:=hs.len
 rw[zAd]at la
 let B:zA1:=λb=>h1.size<=b
 refine zMk (λw _ h=>(ad.map zJg).all zTL=true/\BufE 8 B h w ((zGU ad).map mvC)/\Keep No h1 h) (λk2 hk2=>?_) ?_
 ·refine zBP (a1.ld (i:=2) rfl) (zBP la ?_)
  refine zWP (λi w h=>((ad.map zJg).take i).all zTL=true/\BufE 8 B h w ((zGU (ad.take i)).map mvC)/\Keep No h1 h) ⟨rfl,BufE.nil,Keep.refl⟩ (λw h hI=>hk2 _ _ _ ⟨by have:=hI.1;rwa [zAr (by simp)]at this,by have:=hI.2.1;rwa [zBE]at this,hI.2.2⟩) ?_
  rintro i w h hlt ⟨hall,hb,kh⟩ k4 hk4
  obtain⟨x,hx,hm⟩:=zPs hlt
  have k0h:=k1.trans kh
  have hvx:=(hsm x hm).keep k0h λ_ _=>id
  have wx:=hvx.m.wf
  have g0:=kh.1
  have gH:=k1.1
  refine zAex (hs.keep k0h λ_ _=>id) (zIl hx) zAen (zD1 zQZ) λh6 a6 k6=>?_
  have k06:=k0h.trans k6
  have hv6:=hvx.keep k6 λ_ _=>id
  have hall':=zAgf (p:=zTL) (zIl (f:=zJg) hx)
  have bad:zTL (zJg x)=false->(zNE (zCi inst) (zCi dr) (ad.map zJg) (zCi af))=false:=λe=>by
   unfold zNE
   rw[zCt.2 ⟨zJg x,zAo.2 ⟨x,hm,rfl⟩,by simp[e]⟩];rfl
  simp only[zBf,zAi,zAu,zAa]
  refine zBP (zWW a6 wx) ?_
  refine zAI (zR8 hv6.m (by have:=hv6.sd;omega) (by have:=hv6.sc;omega) (hT.keep k06 λ_ h=>h.elim).ops) ?_
  rintro _ h8 ⟨rfl,k8⟩
  have a8:=a6.keep k8 id
  have g8:=(k06.trans k8).1
  have po:zTL (zJg x)=(zEC x.1.1&&zFj x.1.1.files (x.2.2.map (·.2))):=rfl
  refine zBP rfl (zWO (λe=>zNn rfl ⟨by rw[bad (by rw[po];have e:(!zEC x.1.1)=true:=e;simp at e;rw[e];rfl)],k06.trans k8⟩) λe=>?_)
  have eok:zEC x.1.1=true:=by have e:(!zEC x.1.1)=false:=e;simpa using e
  refine zBP (zWW a8 wx) (zBP (zAnE a8 wx) ?_)
  have hv8:=hv6.keep k8 λ_ _=>id
  refine zAI (zAda hv8.m hv8.f (λb hb=>by have:=hB b (.inr (.inr (.inl hb)));omega) (λ_=>by have:=hv8.sn;omega) (λj y f hy _ _=>hv8.sb y (zAC hy)) (hS.keep (k06.trans k8) λ_ h=>h.elim)) ?_
  rintro _ h10 ⟨rfl,k10⟩
  have a10:=a8.keep k10 id
  have k610:=(k6.trans k8).trans k10
  have g10:=k610.1
  refine zBP rfl (zRn (λe=>⟨by rw[bad (by rw[po];have e:(!zFj x.1.1.files (x.2.2.map (·.2)))=true:=e;simp only[zBt]at e;rw[e,zBG])],(k06.trans k8).trans k10⟩) λe=>?_)
  have efit:zFj x.1.1.files (x.2.2.map (·.2))=true:=by have e:(!zFj x.1.1.files (x.2.2.map (·.2)))=false:=e;simpa using e
  refine zBP (zWW a10 wx) ?_
  refine zAaI (hb.keep k610 λ_ _=>id) (zNY (zBB wx)) (zBB wx) (zFP (x:=x.1) (hsm x hm).m) (by omega) (by simp;omega) (by omega) λu h12 bu k12=>?_
  refine zLC hlt (by omega) (hk4 _ _ ⟨?_,?_,(kh.trans k610).fresh k12 λb hb=>?_⟩)
  ·rw[hall',hall,po,eok,efit];rfl
  ·rw[zAG,hx]
   simpa [zGU] using bu
  ·exact hb
 rintro w _ h ⟨hall,hbw,kh⟩
 have k0h:=k1.trans kh
 have a0:=a1.keep kh id
 have g0:=k0h.1
 have gH:=kh.1
 have hB':∀ b,P b\/Qd b\/Qs b\/Qt b->∀ h',Keep No H h'->b<h'.size:=λb hb h' k=>zAM (hB b hb) k.1
 have TT:∀ h',Keep No H h'->zWz h'/\zRs h':=λh' k=>⟨hT.keep k λ_ h=>h.elim,hS.keep k λ_ h=>h.elim⟩
 have wl:∀ mv:List MV,∀ x∈zLD mv,x.2.2.length=32:=λmv x hx=>by
  obtain⟨y,_,rfl⟩:=zAo.1 hx
  exact zFa
 refine zBP (a0.ld (i:=3) rfl) ?_
 refine zAI (zNa (hp.keep k0h λ_ _=>id) (λb hb=>hB' b (.inl hb) _ k0h) l1 (TT _ k0h).1 (TT _ k0h).2) ?_
 rintro t36 h14 ⟨b36,k14⟩
 have k014:=k0h.trans k14
 have a14:=a0.keep k14 id
 rw[a14.ld (i:=3) rfl]
 rw[zBp,zA8]
 refine zAI (zNa (ht.keep k014 λ_ _=>id) (λb hb=>hB' b (.inr (.inr (.inr hb))) _ k014) l4 (TT _ k014).1 (TT _ k014).2) ?_
 rintro t39 h15 ⟨b39,k15⟩
 have k015:=k014.trans k15
 have b36':=b36.sl.keep k15 λ_ _=>id
 refine zBP ((a14.keep k15 id).ld (i:=3) rfl) ?_
 refine zAI (zUR (ht.keep k015 λ_ _=>id) (λb hb=>hB' b (.inr (.inr (.inr hb))) _ k015) l4 (TT _ k015).1 (TT _ k015).2) ?_
 rintro _ h16 ⟨rfl,k16⟩
 have k016:=k015.trans k16
 have cf:zNE (zCi inst) (zCi dr) (ad.map zJg) (zCi af)=(zC0 (zCi af)&&decide (zLD dr=zFQ (zLD inst) (zLD af))&&decide (zLD (zGU ad)=zFQ (zLD af) (zLD inst))):=by
  unfold zNE
  rw[hall,zBa]
  simp only[List.map_map];rfl
 have b36x:=b36'.keep k16 λ_ _=>id
 have b39x:=b39.sl.keep k16 λ_ _=>id
 have fl:∀ xs ys:List IT,(zFQ xs ys).length<=xs.length:=λxs ys=>by unfold zFQ;exact zBi _ _
 have wf:∀ xs ys:List IT,(∀ x∈xs,x.2.2.length=32)->∀ x∈zFQ xs ys,x.2.2.length=32:=λxs ys hx x h=>hx x (zBd.1 h).1
 refine zLZ (λe=>?_) λe=>zLZ (λe=>by cases e) λ_=>⟨by rw[cf,e];rfl,k016⟩
 refine zBP (((a14.keep k15 id).keep k16 id).ld (i:=1) rfl) ?_
 refine zAI (zNa (hd.keep k016 λ_ _=>id) (λb hb=>hB' b (.inr (.inl hb)) _ k016) l2 (TT _ k016).1 (TT _ k016).2) ?_
 rintro t46 h18 ⟨b46,k18⟩
 have k018:=k016.trans k18
 refine zAI (zYl (b36x.keep k18 λ_ _=>id) (b39x.keep k18 λ_ _=>id) (wl inst) (wl af) (by simpa [zLD] using l1) (by simpa [zLD] using l4)) ?_
 rintro t49 h19 ⟨b49,k19⟩
 have k019:=k018.trans k19
 refine zAI (zWV (b46.sl.keep k19 λ_ _=>id) b49.sl (wl dr) (wf _ _ (wl inst)) (by simp[zLD];omega)) ?_
 rintro _ _ ⟨rfl,rfl⟩
 refine zLZ (λe2=>?_) λe2=>⟨by rw[cf,e,e2];rfl,k019⟩
 have k1619:=k18.trans k19
 have kh19:Keep No h h19:=(((k14.trans k15).trans k16).trans k18).trans k19
 have hA:zLB (λb=>Qs b\/(h1.size<=b/\b<h.size)) h19 w (zGU ad):=by
  refine⟨(BufE.re hbw λb hb hF=>(⟨hF,hb⟩:B b/\b<h.size)).sl.keep kh19 (λ_ _=>id) |>.mono λ_ => .inr,λx hx=>?_,λx hx=>?_⟩
  ·obtain⟨y,hy,rfl⟩:=zAo.1 hx
   exact((hsm y hy).m.keep k019 λ_ _=>id).mono λ_ => .inl
  ·obtain⟨y,hy,rfl⟩:=zAo.1 hx
   exact⟨(hsm y hy).sd,(hsm y hy).sc⟩
 refine zAI (zNa hA (λb hb=>hb.elim (λhb=>hB' b (.inr (.inr (.inl hb))) _ k019) λhb=>by have:=kh19.1;omega) (by simpa [zGU] using l3) (TT _ k019).1 (TT _ k019).2) ?_
 rintro t54 h23 ⟨b54,k23⟩
 have k023:=k019.trans k23
 refine zAI (zYl ((b39x.keep k1619 λ_ _=>id).keep k23 λ_ _=>id) ((b36x.keep k1619 λ_ _=>id).keep k23 λ_ _=>id) (wl af) (wl inst) (by simpa [zLD] using l4) (by simpa [zLD] using l1)) ?_
 rintro t57 h24 ⟨b57,k24⟩
 refine zAI (zWV (b54.sl.keep k24 λ_ _=>id) b57.sl (wl _) (wf _ _ (wl af)) (by simp[zLD,zGU];omega)) ?_
 rintro _ _ ⟨rfl,rfl⟩
 exact⟨by rw[cf,e,e2];rfl,k023.trans k24⟩
section
variable {h:zAx} {q:Nat} {vi vp:Value} {a:zSe}
end
def zAbK (inst:List Man)(m:Man):Bool:=inst.any λo=>decide (o.name=m.name)&&decide (o.ver=m.ver)
theorem zYn {inst:List Man}(hn:(inst.map (·.name)).Nodup){m:Man}:zYf inst m = !zAbK inst m:=by
 unfold zYf
 cases hf:inst.find? (λo=>decide (o.name=m.name)) with
 | none =>
  have:zAbK inst m=false:=by
   unfold zAbK
   rw[zCu]
   intro o ho
   have:=zCq.1 hf o ho
   simp at this
   simp[this]
  rw[this];rfl
 | some o =>
  have ho:=zCE hf
  have hs:=List.find?_some hf
  simp at hs
  show(!decide (o.ver=m.ver))=_
  congr 1
  unfold zAbK
  rw[zAR,zBz,decide_eq_true_eq]
  constructor
  ·exact λe=>⟨o,ho,by simp[hs,e]⟩
  ·rintro⟨x,hx,e⟩
   simp at e
   obtain⟨i,hi,rfl⟩:=zBK hx
   obtain⟨j,hj,rfl⟩:=zBK ho
   have:=zWU hn hi hj (by rw[zUP hi,zUP hj];exact e.1.trans hs.symm)
   subst this
   exact e.2
end Go.Proofs.YticdfkoncnnmmaaGreatDoor
