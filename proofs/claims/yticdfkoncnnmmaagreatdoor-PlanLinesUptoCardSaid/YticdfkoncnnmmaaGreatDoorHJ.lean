import Derived.Test.YticdfkoncnnmmaaGreatDoorHF
import Derived.Test.YticdfkoncnnmmaaGreatDoorG1
import Derived.Test.YticdfkoncnnmmaaGreatDoorHB
import Derived.Test.YticdfkoncnnmmaaGreatDoorHE
import Derived.Test.YticdfkoncnnmmaaGreatDoorGU
import Derived.Test.YticdfkoncnnmmaaGreatDoorH0
set_option linter.unusedSimpArgs false
set_option linter.unusedVariables false
set_option maxRecDepth 100000
namespace Go.Proofs.YticdfkoncnnmmaaGreatDoor
open Go.X Go.X.Diff
structure zUr (P:zA2)(H:zAw)(x:PW):Prop where
 m:zMf P H x.1.1 x.1.2.1 x.1.2.2.1 x.1.2.2.2
 f:BSS P P H x.2.1 x.2.2
theorem zUr.keep {P S:zA2}{H H':zAw}{x:PW}(h:zUr P H x)(k:Keep S H H')(hs:∀ b,P b->¬ S b):zUr P H' x:=⟨h.m.keep k hs,h.f.keep k hs hs⟩
structure zS2 (P:zA2)(H:zAw)(v:Value)(pv:List PW):Prop where
 h:SlE 9 P H v (pv.map pvC)
 m:∀ x∈pv,zUr P H x
 hl:pv.length<=9223372036854775807
theorem zS2.keep {P S:zA2}{H H':zAw}{v:Value}{pv:List PW}(h:zS2 P H v pv)(k:Keep S H H')(hs:∀ b,P b->¬ S b):zS2 P H' v pv:=⟨h.h.keep k hs,λx hx=>(h.m x hx).keep k hs,h.hl⟩
theorem zS2.len {P:zA2}{H:zAw}{v:Value}{pv:List PW}(h:zS2 P H v pv):zDD v=some (.int .i64 (pv.length:Nat)):=by have:=h.h.len;rwa [zAf]at this
structure zSu where
 mv:List MV
 pv:List PW
 ask:zQz
def zMU (vi vp:Value)(a:zQz):List Value:=vi::vp::zSt a
structure zAa6 (P:zA2)(H:zAw)(vi vp:Value)(z:zSu):Prop where
 i:zUq P H vi z.mv
 p:zS2 P H vp z.pv
 a:z.ask.wf
end Go.Proofs.YticdfkoncnnmmaaGreatDoor
namespace Go.Proofs.YticdfkoncnnmmaaGreatDoor.Came
open Go.X
theorem zAab {α:Type}{enc:α->List Value}{Q:α->Prop}:∀ {q:List (List Value)},(∀ x∈q,∃ a,Q a/\x=enc a)->∃ l:List α,q=l.map enc/\∀ a∈l,Q a
 | [],_=>⟨[],rfl,λy h=>by cases h⟩
 | x::q,h=>by
  obtain⟨ys,hy,hw⟩:=zAab (q:=q) λx hx=>h x (by simp[hx])
  obtain⟨a,ya,rfl⟩:=h x (by simp)
  refine⟨a::ys,by rw[hy];rfl,λz hz=>?_⟩
  rcases zAr.1 hz with rfl|hz
  ·exact ya
  ·exact hw z hz
theorem zAky:prg.underlying zDF=some (.slice zAi):=by kernel_rfl
theorem zAgX:prg.underlying zG6=some (.slice zA5):=by kernel_rfl
theorem zAdR {α:Type}{enc:α->List Value}{Q:World->α->Prop}{n:Nat}{TS T:TypeId}(hn:0<n)(hu:prg.underlying TS=some (.slice T))(hc:prg.cellsOf T=n)(hone:∀ w a,Q w a->∀ c∈enc a,c.oneCell'=true)(hof:∀ (w:World) (d:Nat) (cs:List Value),Shp prg w d T cs->∃ a,Q w a/\cs=enc a)
  {w:World} {d:Nat} {v:Value} (h:Shp prg w d TS [v]):∃ xs:List α,xs.length<=9223372036854775807/\SlE n (· < w.heap.size) w.heap v (xs.map enc)/\∀ x∈xs,Q w x:=by
 cases d with
 | zero=>exact h.elim
 | succ d =>
  simp only[Shp,hu]at h
  rcases h with h|⟨a,len,cap,hv,hle,hcap,hel⟩
  ·obtain rfl:v = .slice none 0 0:=by simpa using h
   exact⟨[],by simp,SlE.nil,λx h=>by cases h⟩
  ·obtain rfl:v = .slice (some a) len cap:=by simpa using hv
   rw[hc]at hel
   obtain⟨q,hq,hs,hqi⟩:=zK2 (n:=n) (q:=λcs=>∃ a,Q w a/\cs=enc a) hn hle (λcs ⟨x,hx,e⟩ c hc=>by subst e;exact hone w x hx c hc) λi hi=>by
    obtain⟨cs',h1,h2⟩:=hel i hi
    exact⟨cs',h1,hof _ _ _ h2⟩
   obtain⟨xs,rfl,hw⟩:=zAab hqi
   have hm:maxLen=9223372036854775807:=rfl
   rw[zAf]at hq
   exact⟨xs,by omega,hs,hw⟩
theorem zAkz {w:World}{d:Nat}{v:Value}(h:Shp prg w d zDF [v]):∃ mv:List MV,mv.length<=9223372036854775807/\zUq (· < w.heap.size) w.heap v mv:=by
 obtain⟨xs,h1,h2,h3⟩:=zAdR (enc:=mvC) (Q:=λw x=>zMf (· < w.heap.size) w.heap x.1 x.2.1 x.2.2.1 x.2.2.2) (n:=8) (by omega) zAky zAcH (λw a ha=>ha.one) (λw d cs hs=>by
  obtain⟨m,vd,vc,vf,hm,e⟩:=zAgw hs
  exact⟨(m,vd,vc,vf),hm,e⟩) h
 exact⟨xs,h1,h2,h3,h1⟩
theorem zAlX:zAbo zA5 [(0,zAi),(8,zMt)]=true:=by kernel_rfl
theorem zAgY:prg.cellsOf zA5=9:=by kernel_rfl
theorem zAiJ:prg.cellsOf zMt=1:=by kernel_rfl
theorem zAkA {w:World}{d:Nat}{cs:List Value}(h:Shp prg w d zA5 cs):∃ x:PW,zUr (· < w.heap.size) w.heap x/\cs=pvC x:=by
 obtain⟨d',hl,hfl⟩:=zNp zAlX h
 rw[zAgY]at hl
 have h0:=hfl 0 0 zAi rfl
 have h1:=hfl 1 8 zMt rfl
 rw[zAcH]at h0;rw[zAiJ]at h1
 obtain⟨m,vd,vc,vf,hm,e0⟩:=zAgw h0
 have e1:(cs.drop 8).take 1=[cs[8]'(by omega)]:=by
  rw[zBF (by omega)];rfl
 rw[e1]at h1
 obtain⟨xs,hxl,hx⟩:=zAjZ h1
 refine⟨((m,vd,vc,vf),_,xs),⟨hm,hx⟩,?_⟩
 have e2:cs=(cs.drop 0).take 8++(cs.drop 8).take 1:=by
  rw[zBY,zAs (l:=cs.drop 8) (by simp;omega),zBu]
 rw[e0,e1]at e2
 exact e2
theorem zAkB {w:World}{d:Nat}{v:Value}(h:Shp prg w d zG6 [v]):∃ pv:List PW,pv.length<=9223372036854775807/\zS2 (· < w.heap.size) w.heap v pv:=by
 obtain⟨xs,h1,h2,h3⟩:=zAdR (enc:=pvC) (Q:=λw x=>zUr (· < w.heap.size) w.heap x) (n:=9) (by omega) zAgX zAgY (λw a ha c hc=>by
  rcases zAt.1 hc with hc|hc
  ·exact zG1 (x:=a.1) ha.m c hc
  ·rw[zAF.1 hc];exact ha.f.sl.oneC) (λw d cs hs=>zAkA hs) h
 exact⟨xs,h1,h2,h3,h1⟩
end Go.Proofs.YticdfkoncnnmmaaGreatDoor.Came
namespace Go.Proofs.YticdfkoncnnmmaaGreatDoor
open Go.X Go.X.Diff Go.MapKept
theorem zVo {l:List Man}{ps:List (List UInt8)}{of:zSS}(h:zWm ps of l=0):(l.map (·.name)).Nodup/\∀ m∈l,m.name∉ps:=zAlS h
def upB (hv:List Man)(i:Nat):Bool:=decide (i=0) || decide (zNo (gM hv (i-1)).name (gM hv i).name<0)
def zAdS (hv:List Man):Bool:=(List.range hv.length).all (upB hv)
theorem zPO {hv:List Man}{i:Nat}(h:i<hv.length):gM hv i=hv[i]:=by
 unfold gM;rw[List.getD_eq_getElem?_getD,zAj h];rfl
theorem zAlY {hv:List Man}{i:Nat}(h:i<hv.length):gM hv i∈hv:=by rw[zPO h];exact zAG h
theorem zWf {hv:List Man}(h:(hv.map (·.name)).Nodup){i j:Nat}(hi:i<hv.length)(hj:j<hv.length)(e:(gM hv i).name=(gM hv j).name):i=j:=by
 have hp:=zBG.1 (zBA.1 h)
 rw[zPO hi,zPO hj]at e
 rcases Nat.lt_trichotomy i j with c|c|c
 ·exact absurd e (hp i j hi hj c)
 ·exact c
 ·exact absurd e.symm (hp j i hj hi c)
theorem zXD {hv:List Man}:zEW hv=(decide (zWm [] [] hv=0)&&zAdS hv):=by
 unfold zEW
 by_cases h0:zWm [] [] hv=0
 ·have hn:=(zVo h0).1
  rw[decide_eq_true h0,zBh,zBh]
  unfold zAit zAdS
  rw[zA4,zAy,zAy]
  refine forall_congr' λi=>forall_congr' λhi=>?_
  have hi':=zBZ.1 hi
  unfold zSr upB
  by_cases e:i=0
  ·simp[e]
  ·have ht:=zF7.turn (gM hv (i-1)).name (gM hv i).name
   have hne:zNo (gM hv (i-1)).name (gM hv i).name≠0:=λhz=>by
    have:=zWf hn (by omega) hi' ((zF7.zero _ _).1 hz)
    omega
   simp only[decide_eq_false e,Bool.false_or,zBz,decide_eq_false_iff_not,decide_eq_true_eq]
   omega
 ·rw[decide_eq_false h0];rfl
theorem zSV {hv:List Man}(h:zEW hv=true):(hv.map (·.name)).Nodup:=by
 rw[zXD,zAk]at h
 exact(zVo (of_decide_eq_true h.1)).1
theorem zAa7 {hv:List Man}(h:zEW hv=true){x y:Man}(hx:x∈hv)(hy:y∈hv)(e:x.name=y.name):x=y:=by
 obtain⟨i,hi,rfl⟩:=zBx hx
 obtain⟨j,hj,rfl⟩:=zBx hy
 have:=zWf (zSV h) hi hj (by rw[zPO hi,zPO hj];exact e)
 subst this;rfl
theorem zAa8 {hv:List Man}(h:zEW hv=true):∀ m∈hv,zFO m=true:=by
 rw[zXD,zAk]at h
 exact zYP (of_decide_eq_true h.1)
theorem zAa9 {m:Man}(h:zFO m=true):zGl m.ver=true:=by
 unfold zFO zYr at h
 simp only[zAk]at h
 exact h.1.1.1.2
abbrev IT:=List UInt8×List UInt8×List UInt8
def itT (m:Man):IT:=(m.name,zEf m.ver,zAch (0::zAa5 m))
theorem zAdT {hv:List Man}{m:Man}:zJZ hv m=true↔m∈hv:=by
 unfold zJZ
 rw[zBM]
 constructor
 ·rintro⟨o,ho,e⟩;rw[zXu]at e;exact e ▸ ho
 ·exact λh=>⟨m,h,zXu.2 rfl⟩
theorem zAfL {hv:List Man}{m:Man}:zJZ hv m=false↔m∉hv:=by
 rw[<- zAdT];simp
def zAdU (hv:List Man):Prop:=∀ x∈hv,∀ y∈hv,x.name=y.name->x.ver=y.ver->x=y
theorem zAdV {hv:List Man}(h:(List.range hv.length).all (zOV hv)=true):zAdU hv:=λx hx y hy e1 e2=>by
 obtain⟨i,hi,rfl⟩:=zBx hx
 obtain⟨j,hj,rfl⟩:=zBx hy
 have:=zAc6 h hi hj (by rw[zPO hi,zPO hj];exact e1) (by rw[zPO hi,zPO hj];exact e2)
 subst this;rfl
theorem zAba {inst:List Man}{l:List Pk}(hT:zAdU (zEO inst l)){m:Man}(hm:m∈zEO inst l)(hn:m∉inst):zNt l m∈l/\(zNt l m).1=m:=by
 unfold zEO at hm
 rcases zAt.1 hm with h|h
 ·exact absurd h hn
 obtain⟨h1,h2⟩:=zAX.1 h
 obtain⟨x,hx,rfl⟩:=zAo.1 h1
 unfold zNt
 cases hf:l.find? (zKo x.1.name x.1.ver) with
 | none =>
  have:=zC4.1 hf x hx
  unfold zKo at this
  simp at this
 | some y =>
  have hy:=zCT hf
  have hs:=List.find?_some hf
  unfold zKo at hs
  simp only[zAk,decide_eq_true_eq]at hs
  refine⟨hy,?_⟩
  show y.1=x.1
  refine hT y.1 (zAt.2 (.inr (zAX.2 ⟨zAo.2 ⟨y,hy,rfl⟩,?_⟩))) x.1 hm hs.1 hs.2
  unfold zYN at h2 ⊢
  rw[hs.1,hs.2];exact h2
theorem zP8 {inst:List Man}{l:List Pk}{m:Man}(h:m∈inst):m∈zEO inst l:=zAt.2 (.inl h)
def itC (x:IT):List Value:=[str x.1,str x.2.1]++zBB x.2.2
theorem zWg {x:IT}(h:x.2.2.length=32):(itC x).length=34:=by simp[itC,h]
theorem zAdW {x:IT}:∀ c∈itC x,c.oneCell'=true:=λc hc=>by
 rcases zAt.1 hc with hc|hc
 ·simp at hc;rcases hc with rfl|rfl<;>rfl
 ·obtain⟨b,_,rfl⟩:=zAo.1 hc;rfl
def zIT:IT:=([],[],List.replicate 32 0)
theorem zAmC:zBE prg zCD=some (itC zIT).toArray:=by kernel_rfl
theorem zAm3 {a b s:List UInt8}(hs:s.length=32):zCV prg zCD [(0,str a),(1,str b),(2,bv s)]=some (.agg (itC (a,b,s)).toArray):=by
 have k:zMu prg zCD=some ([(0,1),(1,1),(2,32)],(itC zIT).toArray):=by kernel_rfl
 have hz:(itC zIT).toArray.size=34:=by simp[itC,zIT]
 have c1:(str a).cells.size=1:=rfl
 have c2:(str b).cells.size=1:=rfl
 have c3:(bv s).cells.size=32:=by show(zBB s).toArray.size=32;simp[hs]
 have t1:(spl (itC zIT).toArray 0 (str a).cells).size=34:=by rw[zKX (by omega),hz]
 have t2:(spl (spl (itC zIT).toArray 0 (str a).cells) 1 (str b).cells).size=34:=by rw[zKX (by omega),t1]
 rw[zIv k,zJa (off:=0) (n:=1) rfl rfl (by omega),zJa (off:=1) (n:=1) rfl rfl (by omega),zJa (off:=2) (n:=32) rfl c3 (by omega),zTG]
 have hl:spl (spl (spl (itC zIT).toArray 0 (str a).cells) 1 (str b).cells) 2 (bv s).cells=(itC (a,b,s)).toArray:=by
  apply Array.ext'
  have e1:(spl (spl (itC zIT).toArray 0 (str a).cells) 1 (str b).cells).toList=[str a,str b]++zBB (List.replicate 32 0):=rfl
  have e3:(bv s).cells=(zBB s).toArray:=rfl
  unfold spl at e1 ⊢
  rw[e3]
  simp only[zCe]at e1 ⊢
  rw[e1]
  simp[hs,itC]
 rw[hl];rfl
theorem zAkC {x:IT}(h:x.2.2.length=32):zGf prg zCD 1 [(0,.agg (itC x).toArray)]=some (itC x).toArray :=
 zVN (by kernel_rfl:prg.cellsOf zCD=34) (by omega) (by omega) zAmC (by simp[itC,zIT]) (by simp[zWg h])
theorem zAfM {P:zA2}{H:zAw}{x:MV}(hm:zMf P H x.1 x.2.1 x.2.2.1 x.2.2.2)(hsx:x.1.deps.length<=1000/\x.1.conf.length<=1000)(hP:∀ b,P b->b<H.size)(hT:zZF H)(hS:zTa H) :
  zAz prg zIg [.agg (mvC x).toArray] H λu H'=>u = .agg (itC (itT x.1)).toArray/\Keep No H H':=by
 apply zMG
 unfold zLb
 have w:=hm.wf
 simp only[zB1,zBa,zAmC,zBf,zAg,zAu,zAa]
 generalize hH1:H.push (.cells (mvC x).toArray zAi (0,0))=h1
 have k1:Keep No H h1:=by rw[<- hH1];exact Keep.push
 have a1:At h1 H.size (mvC x):=by rw[<- hH1];exact At.push
 have s1:h1.size=H.size+1:=by rw[<- hH1];simp
 generalize hH2:h1.push (.cells (itC zIT).toArray zCD (0,0))=h2
 have k2:Keep No h1 h2:=by rw[<- hH2];exact Keep.push
 have a2:At h2 h1.size (itC zIT):=by rw[<- hH2];exact At.push
 have k02:=k1.trans k2
 have a12:At h2 H.size (zGI x.1 x.2.1 x.2.2.1 x.2.2.2):=a1.keep k2 id
 rw[zDd a12,zAa,zI7 a12 w,zAa,a12.ldN (zBK w),zAa]
 refine zAJ (zPG w.ver (hT.keep k02 λ_ h=>h.elim).pow) ?_
 rintro _ h3 ⟨rfl,k3⟩
 have a13:=a12.keep k3 id
 have k03:=k02.trans k3
 have g03:=k03.1
 rw[a13.ldN (zBK w),zDd a13,zBq,zBq,zA9]
 refine zAJ (zAdO (hm.keep k03 λ_ _=>id) (λb hb=>by have:=hP b hb;omega) (by omega) (by omega) (hT.keep k03 λ_ h=>h.elim).ops (hT.keep k03 λ_ h=>h.elim).pow) ?_
 rintro t9 h4 ⟨sl,k4⟩
 have a14:=a13.keep k4 id
 rw[zDd a14,zBq,zA9]
 have hln:=zXB w.files λh=>zAaa w h (by omega) (by omega)
 have k04:=k03.trans k4
 refine zAJ (zAdK sl (hS.keep k04 λ_ h=>h.elim) (λb hb=>hb.2) (by omega)) ?_
 rintro _ h5 ⟨rfl,k5⟩
 have a15:=a14.keep k5 id
 rw[zDd a15,zBq,zA9,zAm3 zGY,zAa]
 obtain⟨h6,st6,a6,k6⟩:=(((a2.keep k3 id).keep k4 id).keep k5 id).st (n:=34) (ds:=itC (itT x.1)) (by simp[itC,zIT]) (zWg zGY) zAdW
 exact⟨h6,st6,zCk (a6.ldN (zWg zGY)) ⟨rfl,(k04.trans k5).fresh k6 λb e=>by omega⟩⟩
abbrev zUs (mv:List MV):List IT:=mv.map λx=>itT x.1
theorem zXE {P:zA2}{H:zAw}{v:Value}{mv:List MV}(hp:zNM P H v mv)(hP:∀ b,P b->b<H.size)(hl:mv.length<=1000)(hT:zZF H)(hS:zTa H) :
  zAz prg zFV [v] H λu H'=>BufE 34 (λb=>H.size<=b/\b<H'.size) H' u ((zUs mv).map itC)/\Keep No H H':=by
 apply zL8
 unfold zKf
 refine zWb hp.len (λi w h=>BufE 34 (λb=>H.size<=b) h w ((zUs (mv.take i)).map itC)/\Keep No H h) (λw h=>BufE 34 (λb=>H.size<=b) h w ((zUs mv).map itC)/\Keep No H h) ⟨BufE.nil,Keep.refl⟩ (λw h hI=>by rwa [zBN]at hI) ?_ λw _ h hE=>⟨BufE.re hE.1 λb hb hF=>⟨hF,hb⟩,hE.2⟩
 rintro i w h hlt ⟨hb,kh⟩ k1 k3 _ hk3
 obtain⟨x,hx,hm⟩:=zS1 hlt
 have hpx:=hp.keep kh λ_ _=>id
 have wx:=(hp.m x hm).wf
 have g0:=kh.1
 refine zAiu hpx.h (zLl hx) zMS (zBK zOD) λh6 a6 k6=>?_
 have g6:=k6.1
 have k06:=kh.trans k6
 refine zCk (a6.ldN (zBK wx)) ?_
 refine zAJ (zAfM ((hp.keep k06 λ_ _=>id).m x hm) (hp.sm x hm) (λb hb=>by have:=hP b hb;omega) (hT.keep k06 λ_ h=>h.elim) (hS.keep k06 λ_ h=>h.elim)) ?_
 rintro _ h7 ⟨rfl,k7⟩
 have k67:=k6.trans k7
 have g7:=k67.1
 refine zUi (hb.keep k67 λ_ _=>id) (zAkC zGY) (zWg zGY) zAdW (by omega) (by simp;omega) (by omega) λu h8 bu k8=>?_
 refine zOX hlt (by omega) (hk3 _ _ ⟨?_,(kh.trans k67).fresh k8 λb hb=>hb⟩)
 rw[zAI,hx]
 simpa [zUs] using bu
theorem zAac {mv:List MV}{i:Nat}{x:MV}(h:mv[i]? = some x):((zUs mv).map itC)[i]? = some (itC (itT x.1)):=zLl (zLl (f:=λx:MV=>itT x.1) h)
theorem zAiK {mv:List MV}:((zUs mv).map itC).length=mv.length:=by simp[zUs]
theorem zAdX:zBE prg zA5=some (pvC zPW).toArray:=zAaY
theorem zUr.one {P:zA2}{H:zAw}{x:PW}(h:zUr P H x):∀ c∈pvC x,c.oneCell'=true:=λc hc=>by
 rcases zAt.1 hc with hc|hc
 ·exact zG1 (x:=x.1) h.m c hc
 ·rw[zAF.1 hc];exact h.f.sl.oneC
theorem zAdY {h:zAw}{q:Nat}{x:PW}(a:At h q (pvC x))(w:x.1.1.wf):ldN 8 h (Ptr q 0)=some (.agg (mvC x.1).toArray):=zAgQ a.pt w
abbrev zEX (pv:List PW):List MV:=pv.map (·.1)
theorem zRK {P:zA2}{H:zAw}{v:Value}{pv:List PW}(hp:zS2 P H v pv)(hl:pv.length<=1048576) :
  zAz prg zDU [v] H λu H'=>BufE 8 (λb=>H.size<=b/\b<H'.size) H' u ((zEX pv).map mvC)/\Keep No H H':=by
 apply zJ3
 unfold zH8
 refine zWb hp.len (λi w h=>BufE 8 (λb=>H.size<=b) h w ((zEX (pv.take i)).map mvC)/\Keep No H h) (λw h=>BufE 8 (λb=>H.size<=b) h w ((zEX pv).map mvC)/\Keep No H h) ⟨BufE.nil,Keep.refl⟩ (λw h hI=>by rwa [zBN]at hI) ?_ λw _ h hE=>⟨BufE.re hE.1 λb hb hF=>⟨hF,hb⟩,hE.2⟩
 rintro i w h hlt ⟨hb,kh⟩ k1 k3 _ hk3
 obtain⟨x,hx,hm⟩:=zS1 hlt
 have hpx:=hp.keep kh λ_ _=>id
 have wx:=(hp.m x hm).m.wf
 have g0:=kh.1
 refine zAiu hpx.h (zLl hx) zAdX (zDX zQy) λh6 a6 k6=>?_
 have g6:=k6.1
 rw[zBf,zAa,zAu]
 refine zCk (zAdY a6 wx) ?_
 refine zUi (hb.keep k6 λ_ _=>id) (zSs (zBK wx)) (zBK wx) (zG1 (x:=x.1) (hp.m x hm).m) (by omega) (by simp;omega) (by omega) λu h8 bu k8=>?_
 refine zOX hlt (by omega) (hk3 _ _ ⟨?_,(kh.trans k6).fresh k8 λb hb=>hb⟩)
 rw[zAI,hx]
 simpa [zEX] using bu
theorem zS2.mans {P:zA2}{H H':zAw}{v u:Value}{pv:List PW}(hp:zS2 P H v pv)(k:Keep No H H')(b:BufE 8 (λb=>H.size<=b/\b<H'.size) H' u ((zEX pv).map mvC)):zUq (λb=>P b\/(H.size<=b/\b<H'.size)) H' u (zEX pv) :=
 ⟨b.sl.mono λ_ => .inr,λx hx=>by
  obtain⟨y,hy,rfl⟩:=zAo.1 hx
  exact((hp.m y hy).m.keep k λ_ _=>id).mono λ_ => .inl,by rw[zAf];exact hp.hl⟩
def zSv (l:List Pk):List Pk:=l.foldl zS0 []
theorem zP9 {l:List Pk}{x:Pk}:zSv (l++[x])=zS0 (zSv l) x:=by unfold zSv;rw[List.foldl_append];rfl
theorem zXF {l:List Pk}{x:Pk}:(zAaZ l x=0/\zS0 l x=l++[x])\/zS0 l x=l:=by
 unfold zAaZ zS0
 cases hk:zYL x
 ·right;rfl
 ·cases hf:l.find? (zKo x.1.name x.1.ver) with
  | some y=>right;rfl
  | none =>
   by_cases h:l.length=256
   ·right;simp[h]
   ·left;simp[h]
theorem zAiL {l:List Pk}{x:Pk}:(zS0 l x).length<=l.length+1:=by
 rcases zXF (l:=l) (x:=x) with ⟨_,h⟩|h<;>rw[h]<;>simp
theorem zAiM {l:List Pk}{x:Pk}(h:∀ y∈l,zYL y=true):∀ y∈zS0 l x,zYL y=true:=by
 unfold zS0
 cases hk:zYL x
 ·exact h
 ·cases hf:l.find? (zKo x.1.name x.1.ver) with
  | some y=>exact h
  | none =>
   simp only[zAc,if_false]
   split
   ·exact h
   ·intro y hy
    rcases zAt.1 hy with hy|hy
    ·exact h y hy
    ·rw[zAF.1 hy];exact hk
theorem zAfN {l:List Pk}:∀ y∈zSv l,zYL y=true:=by
 have:∀ (l m:List Pk),(∀ y∈m,zYL y=true)->∀ y∈l.foldl zS0 m,zYL y=true:=λl=>by
  induction l with
  | nil=>exact λm h=>h
  | cons x l ih=>exact λm h=>ih _ (zAiM h)
 exact this l [] λy h=>by cases h
theorem zAad {l:List Pk}:(zSv l).length<=l.length:=by
 have:∀ (l m:List Pk),(l.foldl zS0 m).length<=m.length+l.length:=λl=>by
  induction l with
  | nil=>exact λm=>by simp
  | cons x l ih =>
   intro m
   have h1:=ih (zS0 m x)
   have h2:=zAiL (l:=m) (x:=x)
   rw[zAQ]
   show(l.foldl zS0 (zS0 m x)).length<=_
   omega
 simpa [zSv] using this l []
structure zAbb (P:zA2)(n0:Nat)(l:List Pk)(h:zAw)(R F:zA2)(p:Nat)(w:Value)(out:List PW):Prop where
 q:zPN R p l h
 b:BufE 9 F h w (out.map pvC)
 e:out.map zLR=l
 rb:∀ b,R b->n0<=b
 fb:∀ b,F b->n0<=b/\b<h.size/\¬ R b
theorem zAbb.keep {P:zA2}{n0:Nat}{l:List Pk}{h h':zAw}{R F:zA2}{p:Nat}{w:Value}{out:List PW}(u:zAbb P n0 l h R F p w out)(k:Keep No h h'):zAbb P n0 l h' R F p w out :=
 ⟨u.q.keep k λ_ _=>id,u.b.keep k λ_ _=>id,u.e,u.rb,λb hb=>⟨(u.fb b hb).1,zAS (u.fb b hb).2.1 k.1,(u.fb b hb).2.2⟩⟩
theorem zAkD {n m:Nat}:zAC .no .gtr (.int .i64 (n:Nat)) (.int .i64 (m:Nat))=some (.bool (decide (n > m))):=zAbr
theorem zAfO {P:zA2}{H:zAw}{v:Value}{pv:List PW}(hp:zS2 P H v pv)(hs:zSU (zEX pv))(hP:∀ b,P b->b<H.size)(hl:pv.length<=100)(hT:zZF H)(hS:zTa H)(hNG:NG<=H.size) :
  zAz prg zGm [v] H λu H'=>(∃ R F p w out,u = .tuple #[Ptr p 0,w]/\zAbb P H.size (zSv (pv.map zLR)) H' R F p w out/\∀ x∈out,x∈pv)/\Keep No H H':=by
 apply zMD
 unfold zK9
 refine zAJ zXv ?_
 rintro _ h1 ⟨rfl,q1,k1⟩
 have g1:=k1.1
 have pn:zAC .ptr .eql (Ptr H.size 0) (.pointer none)=some (.bool false):=rfl
 refine zCk pn (zOF rfl ?_)
 let I:List PW->zAn:=λl w h=>(∃ R F out,zAbb P H.size (zSv (l.map zLR)) h R F H.size w out/\∀ x∈out,x∈pv)/\Keep No H h
 refine zWb hp.len (λi w h=>I (pv.take i) w h) (λw h=>I pv w h) ⟨⟨(· = H.size),No,[],⟨q1,BufE.nil,rfl,λb hb=>by omega,λb hb=>hb.elim⟩,λx h=>by cases h⟩,k1⟩ (λw h hI=>by rwa [zBN]at hI) ?_ ?_
 rotate_left
 ·rintro w _ h ⟨⟨R,F,out,hu,ho⟩,k⟩
  exact⟨⟨R,F,H.size,w,out,rfl,hu,ho⟩,k⟩
 rintro i w h hlt ⟨⟨R,F,out,hu,ho⟩,kh⟩ k2 k4 _ hk4
 obtain⟨x,hx,hm⟩:=zS1 hlt
 have hpx:=hp.keep kh λ_ _=>id
 have hrx:=hp.m x hm
 have wx:=hrx.m.wf
 have g0:=kh.1
 have hsx:=hs x.1 (zAo.2 ⟨x,hm,rfl⟩)
 have htk:(pv.take (i+1)).map zLR=(pv.take i).map zLR++[zLR x]:=by rw[zAI,hx];simp
 have hpl:(zSv ((pv.take i).map zLR)).length<=100:=by
  have:=zAad (l:=(pv.take i).map zLR)
  rw[zAf,zAZ]at this;omega
 refine zMh (λw' _ h'=>I (pv.take (i+1)) w' h') (λk6 hk6=>?_) λw' _ h' hI=>zOX hlt (by omega) (hk4 _ _ hI)
 refine zAiu hpx.h (zLl hx) zAdX (zDX zQy) λh9 a9 k9=>?_
 have hu9:=hu.keep k9
 refine zAJ (zRF hu9.q) ?_
 rintro _ _ ⟨rfl,rfl⟩
 have k09:=kh.trans k9
 have g09:=k09.1
 have hxin:zAfB P h9 x:=⟨hrx.m.keep k09 λ_ _=>id,hrx.f.keep k09 (λ_ _=>id) λ_ _=>id,by have:=hsx.2.2.1;omega,by have:=hsx.2.2.2.1;omega,by have:=hsx.2.2.2.2;omega⟩
 refine zCk (a9.ldN (zDX wx)) ?_
 refine zAJ (zAix hu9.q hxin (λb hb=>by have:=hP b hb;omega) (by omega) (hT.keep k09 λ_ h=>h.elim).ops (hS.keep k09 λ_ h=>h.elim)) ?_
 rintro _ h11 ⟨rfl,⟨R',q',hR'⟩,k11⟩
 have g9:=k9.1
 have g11:=k11.1
 have hRl:∀ b,R b->b<h.size:=by obtain⟨_,_,_,_,_,_,_,_,_,_,_,z⟩:=hu.q;exact z
 have a11:At h11 h.size (pvC x):=a9.keep k11 λhb=>by have:=hRl _ hb;omega
 have k011:Keep No H h11:=k09.fresh k11 λb hb=>hu.rb b hb
 have b11:=hu9.b.keep k11 λb hb hR=>(hu.fb b hb).2.2 hR
 have hu11:zAbb P H.size (zS0 (zSv ((pv.take i).map zLR)) (zLR x)) h11 R' F H.size w out->True:=λ_=>trivial
 have hR0:∀ b,R' b->H.size<=b:=λb hb=>(hR' b hb).elim (hu.rb b) λhb=>by omega
 have hF0:∀ b,F b->H.size<=b/\b<h11.size/\¬ R' b:=λb hb=>⟨(hu.fb b hb).1,by have:=(hu.fb b hb).2.1;omega,λhr=>(hR' b hr).elim (hu.fb b hb).2.2 λhr=>by have:=(hu.fb b hb).2.1;omega⟩
 rcases zXF (l:=zSv ((pv.take i).map zLR)) (x:=zLR x) with ⟨hz,hpp⟩|hpp
 ·refine zCk eqI (zYK (λ_=>?_) λe=>absurd e (by rw[decide_eq_true hz];decide))
  refine zAJ (zRF q') ?_
  rintro _ _ ⟨rfl,rfl⟩
  refine zCk zAkD (zNN (by rw[hpp];simp) (zCk (a11.ldN (zDX wx)) ?_))
  have hol:out.length<=100:=by have:=congrArg List.length hu.e;rw[zAf]at this;omega
  refine zAkm b11 (zYM (zDX wx)) (zDX wx) hrx.one (by omega) (by rw[zAf];omega) λu h16 bu k16=>hk6 _ _ _ ⟨⟨R',λb=>F b\/(h11.size<=b/\b<h16.size),out++[x],⟨?_,by rw[zAE];exact bu,?_,hR0,λb hb=>?_⟩,λy hy=>?_⟩,k011.fresh k16 λb hb=>hb.elim (λhb=>(hF0 b hb).1) λhb=>by have:=k011.1;omega⟩
  ·rw[htk,zP9]
   exact q'.keep k16 λb hb hh=>hh.elim (λhF=>(hF0 b hF).2.2 hb) λhh=>by
    obtain⟨_,_,_,_,_,_,_,_,_,_,_,z⟩:=q'
    have:=z b hb;omega
  ·rw[zAE,hu.e,htk,zP9,hpp];rfl
  ·have g16:=k16.1
   rcases hb with hb|hb
   ·exact⟨(hF0 b hb).1,by have:=(hF0 b hb).2.1;omega,(hF0 b hb).2.2⟩
   ·refine⟨by have:=k011.1;omega,hb.2,λhr=>?_⟩
    obtain⟨_,_,_,_,_,_,_,_,_,_,_,z⟩:=q'
    have:=z b hr;omega
  ·rcases zAt.1 hy with hy|hy
   ·exact ho y hy
   ·rw[zAF.1 hy];exact hm
 ·have done:∀ t,k6 w t h11:=λt=>hk6 _ _ _ ⟨⟨R',F,out,⟨by rw[htk,zP9];exact q',b11,by rw[hu.e,htk,zP9,hpp],hR0,hF0⟩,ho⟩,k011⟩
  refine zCk eqI (zYK (λ_=>?_) λe=>zOF rfl (done _))
  refine zAJ (zRF q') ?_
  rintro _ _ ⟨rfl,rfl⟩
  exact zCk zAkD (zOF (by rw[hpp];simp) (done _))
section
variable {h:zAw} {q:Nat} {vi vp:Value} {a:zQz}
theorem zAmD (p:At h q (zMU vi vp a)):ld1 h (Ptr q 0)=some vi:=p.ld rfl
theorem zAmE (p:At h q (zMU vi vp a)):ld1 h (Ptr q 1)=some vp:=p.ld rfl
theorem zAiN (p:At h q (zMU vi vp a)):ld1 h (Ptr q 3)=some (str a.name):=p.ld rfl
theorem zAlZ (p:At h q (zMU vi vp a)):ld1 h (Ptr q 4)=some (str a.want.op):=p.ld rfl
theorem zAkE (p:At h q (zMU vi vp a))(w:a.wf):ldN 8 h (Ptr q 2)=some (.agg (zSt a).toArray):=by
 have:Pt h q 2 (zSt a):=Pt.mid (A:=[vi,vp]) (B:=zSt a) (C:=[]) (o:=0) (by simpa [zMU] using p.pt) (by simp)
 exact this.agg (zTh w)
theorem zAkF (p:At h q (zMU vi vp a))(w:a.wf):ld1 h (Ptr q 8)=some (str a.want.ver.pre):=by
 obtain⟨b1,b2,b3,e⟩:=Ver.cases3 w.want.ver
 refine p.ld ?_
 unfold zMU zSt zFf zED
 rw[e];rfl
theorem zAfP (p:At h q (zMU vi vp a))(w:a.wf):ld1 h (Ptr q 9)=some (.int .i64 a.bound):=by
 refine p.ld ?_
 have h1:=zTh w
 have h2:=zF8 w.want
 unfold zMU zSt
 rw[show vi::vp::([Value.int .i64 a.kind,str a.name]++zFf a.want++[.int .i64 a.bound])=([vi,vp,.int .i64 a.kind,str a.name]++zFf a.want)++[.int .i64 a.bound] by simp]
 rw[zBb (by simp[h2]),zAq,h2];rfl
end
end Go.Proofs.YticdfkoncnnmmaaGreatDoor
