import Derived.Test.YticdfkoncnnmmaaGreatDoorHE
import Derived.Test.YticdfkoncnnmmaaGreatDoorGO
import Derived.Test.YticdfkoncnnmmaaGreatDoorGI
import Derived.Test.YticdfkoncnnmmaaGreatDoorH9
import Derived.Test.YticdfkoncnnmmaaGreatDoorG6
import Derived.Test.YticdfkoncnnmmaaGreatDoorG1
import Derived.Test.YticdfkoncnnmmaaGreatDoorHB
set_option linter.unusedSimpArgs false
set_option linter.unusedVariables false
set_option maxRecDepth 100000
namespace Go.Proofs.YticdfkoncnnmmaaGreatDoor
open Go.X Go.X.Diff Go.MapKept
def zYh (nm:List UInt8)(ds:List Dep):Man:=⟨nm,⟨[1,0,0],[]⟩,ds,[],[]⟩
def zNo (n:List UInt8):Dep:=⟨n,⟨[42],zEc⟩⟩
theorem zAaQ {n:List UInt8}(h:n.length<=9223372036854775807):(zNo n).wf:=⟨⟨zG7,by simp[zNo]⟩,h⟩
theorem zWS {nm:List UInt8}{ds:List (List UInt8)}(h:nm.length<=9223372036854775807)(hd:∀ d∈ds,d.length<=9223372036854775807):(zYh nm (ds.map zNo)).wf :=
 ⟨h,⟨rfl,by simp[zYh]⟩,λd h=>by
  obtain⟨n,hn,rfl⟩:=zAo.1 h
  exact zAaQ (hd n hn),(λd h=>absurd h (by simp[zYh])),(λd h=>absurd h (by simp[zYh]))⟩
theorem zAk1 {nm:List UInt8}:zCM prg zAe [(0,str nm),(1,.agg (zEm ⟨[1,0,0],[]⟩).toArray)]=some (.agg (mvC (zYh nm [],zCn,zCn,zCn)).toArray):=by kernel_rfl
set_option maxHeartbeats 1000000 in
theorem zWT {P:zA1}{H:zAx}{nm:List UInt8}{v:Value}{ds:List (List UInt8)}(hT:zWz H)(hn:nm.length<=9223372036854775807)(hd:∀ d∈ds,d.length<=9223372036854775807)(hv:SlE 1 P H v (zRt ds))(hl:ds.length<=1000) :
  zAA prg zFl [str nm,str [49,46,48,46,48],v] H λu H'=>(∃ vd,u = .agg (mvC (zYh nm (ds.map zNo),vd,zCn,zCn)).toArray/\BufE 6 (λb=>H.size<=b/\b<H'.size) H' vd ((ds.map zNo).map zFp))/\Keep zAK H H':=by
 apply zMT
 unfold zLp
 simp only[zL8,zBb]
 generalize hH1:H.push (.cells (zGN ⟨[],zEc,[],[],[]⟩ zCn zCn zCn).toArray zAe (0,0))=H1
 have k1:Keep zAK H H1:=by rw[<- hH1];exact Keep.push
 have a1:At H1 H.size (zGN ⟨[],zEc,[],[],[]⟩ zCn zCn zCn):=by rw[<- hH1];exact At.push
 have l1:=a1.lt
 have T1:=hT.keep k1 λ_ h=>h.elim
 refine zAI (zAim T1.err T1.pow (by simp)) ?_
 rintro u h2 ⟨hR,k2⟩
 have hvw:(⟨[1,0,0],[]⟩:Ver).wf:=⟨rfl,by simp⟩
 have hok:zG5 ⟨[1,0,0],[]⟩=true:=by decide +kernel
 have hs:zHO ⟨[1,0,0],[]⟩=[49,46,48,46,48]:=by decide +kernel
 obtain rfl:u=Value.tuple #[.agg (zEm ⟨[1,0,0],[]⟩).toArray,.int .i64 0]:=by
  rcases hR with ⟨v',hww,ho,hs',rfl⟩|⟨hno,rfl⟩
  ·rw[show v'=⟨[1,0,0],[]⟩ from zAaa hww.p3 hvw.p3 ho hok (by rw[hs',hs])]
  ·exact absurd hs (hno ⟨[1,0,0],[]⟩ hvw.p3 hok)
 have x0:∀ a b:Value,zE0 0 (.tuple #[a,b])=some a:=λ_ _=>rfl
 have x1:∀ a b:Value,zE0 1 (.tuple #[a,b])=some b:=λ_ _=>rfl
 rw[x0,zAa,x1,zAa]
 have zv:zBI prg zAO=some (zEm zEc).toArray:=by kernel_rfl
 simp only[zv,zBb]
 generalize hH3:h2.push (.cells (zEm zEc).toArray zAO (0,0))=h3
 have k3:Keep zAK h2 h3:=by rw[<- hH3];exact Keep.push
 have a3:At h3 h2.size (zEm zEc):=by rw[<- hH3];exact At.push
 obtain⟨h4,st4,a4,k4⟩:=a3.st (n:=4) (ds:=zEm ⟨[1,0,0],[]⟩) (zDH zG7) (zDH hvw) zLa
 have k24:Keep zAK h2 h4:=k3.fresh k4 λb hb=>by omega
 have k14:=k2.trans k24
 have g14:=k14.1
 rw[st4,zAW,a4.ldN (zDH hvw),zAa,zAk1,zAa]
 generalize hH5:h4.push (.cells (zGN ⟨[],zEc,[],[],[]⟩ zCn zCn zCn).toArray zAe (0,0))=h5
 have k5:Keep zAK h4 h5:=by rw[<- hH5];exact Keep.push
 have a5:At h5 h4.size (zGN ⟨[],zEc,[],[],[]⟩ zCn zCn zCn):=by rw[<- hH5];exact At.push
 have s5:h5.size=h4.size+1:=by rw[<- hH5];simp
 have w0:∀ i,(zYh nm ((ds.take i).map zNo)).wf:=λi=>zWS hn λd h=>hd d (zBw h)
 have mone:∀ {m:Man} {t:Value},t.oneCell'=true->∀ c∈mvC (m,t,zCn,zCn),c.oneCell'=true:=λht c hc=>by
  rcases zAs.1 hc with rfl|hc
  ·rfl
  rcases zAp.1 hc with hc|hc
  ·exact zLa c hc
  ·simp only[zAs,zCL,or_false]at hc
   rcases hc with rfl|rfl|rfl
   ·exact ht
   ·rfl
   ·rfl
 obtain⟨h6,st6,a6,k6⟩:=a5.st (n:=8) (ds:=mvC (zYh nm [],zCn,zCn,zCn)) (zBB zOr) (zBB (w0 0)) (mone rfl)
 have k46:Keep zAK h4 h6:=k5.fresh k6 λb hb=>by omega
 have k16:=k14.trans k46
 have g6:=k6.1
 rw[st6,zAW]
 have hlen:=hv.len
 rw[zOL]at hlen
 let I:Nat->zAx->Prop:=λi h=>∃ t,At h h4.size (mvC (zYh nm ((ds.take i).map zNo),t,zCn,zCn))/\BufE 6 (λb=>h6.size<=b/\b<h.size) h t (((ds.take i).map zNo).map zFp)/\Keep (· = h4.size) h6 h
 refine zOt (λ_ h=>I ds.length h) (λk7 hk7=>?_) ?_
 rotate_left
 ·rintro _ h8 ⟨t,a8,b8,k8⟩
  have w8:=w0 ds.length
  rw[zAr (zAh _)]at a8 b8 w8
  have k18:Keep zAK H1 h8:=k16.fresh k8 λb e=>by omega
  obtain⟨h14,st14,a14,k14'⟩:=(a1.keep k18 id).st (n:=8) (ds:=mvC (zYh nm (ds.map zNo),t,zCn,zCn)) (zBB zOr) (zBB w8) (mone b8.sl.oneC)
  rw[a8.ldN (zBB w8),zAa,st14,zAW,a14.ldN (zBB w8),zAa]
  have g14':=k14'.1
  have g16:=k16.1
  have g1:=k1.1
  exact⟨⟨t,rfl,(b8.keep k14' λb hb=>by omega).mono λb hb=>by omega⟩,(k1.trans k18).fresh k14' λb e=>by omega⟩
 rw[hlen,zAa]
 refine zKj (λw h=>∃ i:Nat,i<=ds.length/\w = .int .i64 (i:Nat)/\I i h) (λw _=>match w with | .int _ t=>ds.length-t.toNat|_=>0) ⟨0,zAz _,rfl,zCn,a6,BufE.nil,Keep.refl⟩ ?_
 rintro _ h10 ⟨i,hi,rfl,t,a10,b10,k10⟩ k9 hk9
 have g10:=k10.1
 rw[zNZ,zAa,zAl]
 by_cases hlt:i<ds.length
 rotate_left
 ·rw[if_neg (by simpa using hlt)]
  obtain rfl:i=ds.length:=by omega
  exact hk7 _ _ ⟨t,a10,b10,k10⟩
 rw[if_pos (by simpa using hlt)]
 have hg:ds[i]? = some ds[i]:=zAj hlt
 have hm:=zAH hlt
 generalize ds[i]=d at *
 have hdl:=hd d hm
 have k010:Keep zAK H h10:=(k1.trans k16).fresh k10 λb e=>by have:=k1.1;omega
 obtain⟨b,o,hix,hpt,_⟩:=(hv.keep k010 λ_ _=>id).at (i:=i) (x:=[str d]) (by simpa [zHL] using hg)
 have s42:(Value.string ⟨#[42]⟩)=str [42]:=rfl
 simp only[zBf,zAi,zAa]
 rw[hix .i64,zAa,hpt.cell0 rfl,zAa,(zHv a10 (w0 i)).1,zAa,s42,b_W,zAa]
 show Mpu (zCM prg zAL [(0,str (zNo d).name),(1,.agg (zFC (zNo d).want).toArray)]) _
 have hds:=zAaQ hdl
 rw[zAd4 hds,zAa,zTM hds,zCo]
 have hr:=zM9 (x:=zFp (zNo d)) (T:=zAL) (h:=h10) (n:=6) (zEh hds) zLc
 have kp:Keep zAK h10 (h10.push (.cells (zFp (zNo d)).toArray zAL (0,0))):=Keep.push
 have gp:=kp.1
 have htl:(ds.take i).length=i:=by rw[zA4];omega
 refine((b10.keep kp λ_ _=>id).mono (G:=λb=>h6.size<=b) λb hb=>hb.1).app hr (by omega) (by rw[zAd,zAd,zBc];omega) (by show h6.size<=_;omega) λt' h12 b12 k12=>?_
 have g12:=k12.1
 have hv4:=zDH hvw
 obtain⟨h13,st13,a13,k13⟩:=((a10.keep kp id).keep k12 λe=>by omega).st1 (i:=5) (v:=t') (by have:(mvC (zYh nm ((ds.take i).map zNo),t,zCn,zCn)).length=8:=zBB (w0 i);omega) b12.sl.oneC
 have hts:ds.take (i+1)=ds.take i++[d]:=by rw[zAG,hg];rfl
 rw[st13,zAW,zBV (by omega),zAa]
 refine hk9 _ _ ⟨i+1,by omega,rfl,t',?_,?_,?_⟩ (by show ds.length-(i+1)<ds.length-i;omega)
 ·have e:(mvC (zYh nm ((ds.take i).map zNo),t,zCn,zCn)).set 5 t'=mvC (zYh nm ((ds.take (i+1)).map zNo),t',zCn,zCn):=by simp[mvC,zGN,zYh,List.set_append,hv4,zEm]
  rw[e]at a13;exact a13
 ·rw[hts,zAF,zAF]
  have g13:=k13.1
  exact((BufE.re b12 (G:=λb=>h6.size<=b/\b<h12.size) λb h1 h2=>⟨h2,h1⟩).keep k13 λb hb e=>by omega).mono λb hb=>by omega
 ·exact((k10.trans (kp.mono λ_ _ h=>h.elim)).fresh' k12 λb hb => .inr hb).trans k13
def kA:Man:=zYh [97] ([].map zNo)
def kB:Man:=zYh [98] ([[99]].map zNo)
def kC:Man:=zYh [99] ([].map zNo)
def k1P:Pk:=(kB,[])
def k2P:Pk:=(kC,[])
def zAey:zSe:=⟨1,[98],⟨[42],zEc⟩,9⟩
theorem zAi9:zAey.wf:=⟨by simp[zAey],⟨zG7,by simp[zAey]⟩⟩
theorem zAhn:zAbF [] k1P=0/\zSr [] k1P=[k1P]:=by
 have h:zTL k1P=true:=by decide +kernel
 exact⟨by unfold zAbF;rw[h];rfl,by unfold zSr;rw[h];rfl⟩
theorem zAho:zAbF [k1P] k2P=0/\zSr [k1P] k2P=[k1P,k2P]:=by
 have h:zTL k2P=true:=by decide +kernel
 have h2:[k1P].find? (zJy k2P.1.name k2P.1.ver)=none:=by
  rw[zCq]
  intro x hx
  rw[zAD.1 hx]
  decide +kernel
 exact⟨by unfold zAbF;rw[h,h2];rfl,by unfold zSr;rw[h,h2];rfl⟩
def kHv:List Man:=[kA,kB,kC]
def kWs:List Dep:=[⟨[98],⟨[42],zEc⟩⟩,⟨[97],⟨[61],⟨[1,0,0],[]⟩⟩⟩]
theorem zAja:zC0 [kA]=true:=by decide +kernel
theorem zAmu:zRo zAey=true:=by decide +kernel
theorem zAjb:zDN [kA] [k1P,k2P]=kHv:=by
 have h1:zYf [kA] kB=true:=by decide +kernel
 have h2:zYf [kA] kC=true:=by decide +kernel
 unfold zDN
 show [kA]++[kB,kC].filter (zYf [kA])=_
 rw[zCd,h1,zCd,h2];rfl
theorem zAjc:zTs [kA] zAey.name zAey.want=kWs:=rfl
theorem zAnB:zIV kHv kWs 9=true:=by decide +kernel
theorem zAmv:Run kHv 9 (.sol [] kWs) 0 (.ok [1,0,2]) 3:=by
 have e1:zP3 kHv ⟨[98],⟨[42],zEc⟩⟩=[1]:=by decide +kernel
 have e2:zP3 kHv ⟨[97],⟨[61],⟨[1,0,0],[]⟩⟩⟩=[0]:=by decide +kernel
 have e3:zP3 kHv (zNo [99])=[2]:=by decide +kernel
 refine Run.go (d:=⟨[98],⟨[42],zEc⟩⟩) (ws:=[⟨[97],⟨[61],⟨[1,0,0],[]⟩⟩⟩]) (by decide +kernel) ?_
 rw[e1]
 refine Run.down (by decide) (by decide +kernel) ?_ (by simp)
 refine Run.go (d:=⟨[97],⟨[61],⟨[1,0,0],[]⟩⟩⟩) (ws:=[zNo [99]]) (by decide +kernel) ?_
 rw[e2]
 refine Run.down (by decide) (by decide +kernel) ?_ (by simp)
 refine Run.go (d:=zNo [99]) (ws:=[]) (by decide +kernel) ?_
 rw[e3]
 refine Run.down (by decide) (by decide +kernel) ?_ (by simp)
 exact Run.done
theorem zAf8:(zG8 kHv [1,0,2]).map (gM kHv)=kHv:=by
 have h:zG8 kHv [1,0,2]=[0,1,2]:=by decide +kernel
 rw[h];rfl
theorem zAk2:zC0 kHv=true:=by decide +kernel
theorem zAk3:[kA].filter (λm=>!zG9 kHv m)=[]:=by
 have h:zG9 kHv kA=true:=by decide +kernel
 rw[zCd,h];rfl
theorem zAmw:(kHv.filter λm=>!zG9 [kA] m)=[kB,kC]:=by
 have h1:zG9 [kA] kA=true:=by decide +kernel
 have h2:zG9 [kA] kB=false:=by decide +kernel
 have h3:zG9 [kA] kC=false:=by decide +kernel
 unfold kHv
 rw[zCd,h1,zCd,h2,zCd,h3];rfl
theorem zAk4 {x:MV}(h:x.1.wf):zCM prg zA6 [(0,.agg (mvC x).toArray)]=some (.agg (pvC (x,zCn,[])).toArray):=by
 have k:zLM prg zA6=some ([(0,8),(8,1)],(pvC zPW).toArray):=by kernel_rfl
 obtain⟨a,b,c,e⟩:=Ver.cases3 h.ver
 obtain⟨⟨n,⟨p,pre⟩,d1,d2,d3⟩,v1,v2,v3⟩:=x
 simp only at e
 subst e
 rw[zHZ k];rfl
theorem zAjd:zCM prg zJj [(0,.int .i64 1),(1,str [98]),(2,.agg (zFC ⟨[42],zEc⟩).toArray),(3,.int .i64 9)]=some (.agg (zVN zAey).toArray):=by kernel_rfl
theorem zAmx {s:List UInt8}:zF6 prg zBJ 1 [(0,str s)]=some #[str s]:=zAlS
set_option maxHeartbeats 2000000 in
theorem zAeb {H:zAx}(hT:zWz H)(hS:zRs H):zAA prg zCX [] H λu H'=>u = .bool true/\Keep zAK H H':=by
 apply zMo
 unfold zKv
 have hNG:NG<=H.size:=hS.sz
 have s97:(Value.string ⟨#[97]⟩)=str [97]:=rfl
 have s98:(Value.string ⟨#[98]⟩)=str [98]:=rfl
 have s99:(Value.string ⟨#[99]⟩)=str [99]:=rfl
 have sv1:(Value.string ⟨#[49,46,48,46,48]⟩)=str [49,46,48,46,48]:=rfl
 have s42:(Value.string ⟨#[42]⟩)=str [42]:=rfl
 rw[s97,s98,s99,sv1,s42]
 have pn:∀ x,zAB .ptr .eql (Ptr x 0) (.pointer none)=some (.bool false):=λx=>rfl
 have ne0:∀ n:Int,zAB .no .neq (.int .i64 n) (.int .i64 0)=some (.bool (!decide (n=0))):=λn=>neI
 refine zAI zYe ?_
 rintro _ h1 ⟨rfl,q1,k1⟩
 have g1:=k1.1
 rw[pn,zAa]
 refine zDo rfl ?_
 rw[zAmx,zCo]
 have hr:=zM9 (x:=[str [99]]) (T:=zBJ) (h:=h1) (n:=1) rfl (λc hc=>by rw[zAD.1 hc];rfl)
 have k3:Keep zAK h1 (h1.push (.cells [str [99]].toArray zBJ (0,0))):=Keep.push
 generalize h1.push (.cells [str [99]].toArray zBJ (0,0))=h3 at *
 have k03:=k1.trans k3
 refine zAI (zWT (nm:=[98]) (ds:=[[99]]) (hT.keep k03 λ_ h=>h.elim) (by simp) (by simp) hr (by simp)) ?_
 rintro _ h4 ⟨⟨vd,rfl,bd⟩,k4⟩
 have k04:=k03.trans k4
 have g04:=k04.1
 have g34:=k03.1
 have wB:kB.wf:=zWS (by simp) (by simp)
 have wC:kC.wf:=zWS (by simp) (by simp)
 have wA:kA.wf:=zWS (by simp) (by simp)
 let xB:PW:=((kB,vd,zCn,zCn),zCn,[])
 have hxB:zAfY (λb=>h3.size<=b/\b<h4.size) h4 xB:=⟨⟨bd.sl,SlE.nil,SlE.nil,wB⟩,⟨SlE.nil,λx hx=>(by cases hx)⟩,(by decide:kB.deps.length<=1000),(by decide:kB.conf.length<=1000),(by decide:kB.files.length<=1000)⟩
 show Mpu (zCM prg zA6 [(0,.agg (mvC xB.1).toArray)]) _
 rw[zAk4 (x:=xB.1) wB,zAa]
 have q4:=(q1.keep k3 λ_ _=>id).keep k4 λ_ _=>id
 refine zAI (zAi3 (x:=xB) q4 hxB (λb hb=>hb.2) (by simp) (hT.keep k04 λ_ h=>h.elim).ops (hS.keep k04 λ_ h=>h.elim)) ?_
 rintro _ h5 ⟨rfl,⟨R5,q5,hR5⟩,k5⟩
 have k05:Keep zAK H h5:=k04.fresh k5 λb e=>by omega
 have g5:=k5.1
 have ep:zJg xB=k1P:=rfl
 rw[ep,zAhn.1,ne0,zAa]
 rw[ep,zAhn.2]at q5
 rw[zAv,if_neg (by decide),zAa]
 refine zDo rfl ?_
 refine zAI (zWT (P:=λ_=>False) (nm:=[99]) (ds:=[]) (hT.keep k05 λ_ h=>h.elim) (by simp) (by simp) SlE.nil (by simp)) ?_
 rintro _ h8 ⟨⟨vd2,rfl,bd2⟩,k8⟩
 have k08:=k05.trans k8
 have g8:=k8.1
 let xC:PW:=((kC,vd2,zCn,zCn),zCn,[])
 have hxC:zAfY (λb=>h5.size<=b/\b<h8.size) h8 xC:=⟨⟨bd2.sl,SlE.nil,SlE.nil,wC⟩,⟨SlE.nil,λx hx=>(by cases hx)⟩,(by decide:kC.deps.length<=1000),(by decide:kC.conf.length<=1000),(by decide:kC.files.length<=1000)⟩
 show Mpu (zCM prg zA6 [(0,.agg (mvC xC.1).toArray)]) _
 rw[zAk4 (x:=xC.1) wC,zAa]
 refine zAI (zAi3 (x:=xC) (q5.keep k8 λ_ _=>id) hxC (λb hb=>hb.2) (by simp) (hT.keep k08 λ_ h=>h.elim).ops (hS.keep k08 λ_ h=>h.elim)) ?_
 rintro _ h9 ⟨rfl,⟨R9,q9,hR9⟩,k9⟩
 have k09:Keep zAK H h9:=k08.fresh k9 λb e=>by
  rcases hR5 b e with e|e<;>omega
 have g9:=k9.1
 have ep2:zJg xC=k2P:=rfl
 rw[ep2,zAho.1,ne0,zAa]
 rw[ep2,zAho.2]at q9
 rw[zAv,if_neg (by decide),zAa]
 refine zDo rfl ?_
 refine zAI (zSc q9) ?_
 rintro _ _ ⟨rfl,rfl⟩
 have n2:zAB .no .neq (.int .i64 (([k1P,k2P].length:Nat):Int)) (.int .i64 2)=some (.bool false):=rfl
 rw[n2,zAa]
 show Mpu (zBD (.bool false) (.bool true) (.bool false)) _
 rw[zAv,if_neg (by decide),zAa,zAl,if_neg (by decide)]
 refine zAI (zWT (P:=λ_=>False) (nm:=[97]) (ds:=[]) (hT.keep k09 λ_ h=>h.elim) (by simp) (by simp) SlE.nil (by simp)) ?_
 rintro _ h14 ⟨⟨vd3,rfl,bd3⟩,k14⟩
 have k014:=k09.trans k14
 have g14:=k14.1
 have g09:=k09.1
 let xA:MV:=(kA,vd3,zCn,zCn)
 have hmA:zLd (λb=>h9.size<=b/\b<h14.size) h14 kA vd3 zCn zCn:=⟨bd3.sl,SlE.nil,SlE.nil,wA⟩
 show zD2 h14 zAe 1 (zF6 prg zAe 1 [(0,.agg (mvC xA).toArray)]) _
 rw[zNY (zBB wA),zCo]
 have hrA:=zM9 (x:=mvC xA) (T:=zAe) (h:=h14) (n:=8) (zBB wA) (zFP (x:=xA) hmA)
 have k15:Keep zAK h14 (h14.push (.cells (mvC xA).toArray zAe (0,0))):=Keep.push
 have s15:(h14.push (.cells (mvC xA).toArray zAe (0,0))).size=h14.size+1:=by simp
 generalize h14.push (.cells (mvC xA).toArray zAe (0,0))=h15 at *
 have k015:=k014.trans k15
 have hp:zLB (λb=>h9.size<=b/\b<h15.size) h15 (.slice (some ⟨h14.size,0,none⟩) 1 1) [xA]:=⟨hrA.mono λb hb=>by omega,λx hx=>by
  rw[zAD.1 hx]
  exact(hmA.keep k15 λ_ _=>id).mono λb hb=>by omega,λx hx=>by rw[zAD.1 hx];exact⟨(by decide:kA.deps.length<=1000),(by decide:kA.conf.length<=1000)⟩⟩
 rw[b_W,zAa,zAjd,zAa]
 refine zAI (zAi8 hp ((q9.keep k14 λ_ _=>id).keep k15 λ_ _=>id) (λb hb=>hb.2) zAi9 rfl (by simp) (hT.keep k015 λ_ h=>h.elim).ops (by have:=k015.1;omega)) ?_
 rintro u h16 ⟨hu,k16⟩
 have k016:=k015.trans k16
 have hin:zCi [xA]=[kA]:=rfl
 rw[hin]at hu
 have good:(zC0 [kA]&&zRo zAey)=true:=by rw[zAja,zAmu];rfl
 have hno:[kA].find? (λm=>decide (m.name=zAey.name))=none:=by decide +kernel
 obtain⟨n0,z,col,d,s,t,dr,ad,af,rfl,hz,hc,e1,e2,e3⟩:∃ n0 z col d s t dr ad af,u = .tuple #[.agg (chC 1 d s t).toArray,.int .i64 0]/\h15.size<=z/\ChI n0 z 1 col d s t dr ad af h16/\dr.length=0/\ad.length=2/\af.length=3:=by
  rcases hu with ⟨h,_⟩|⟨_,⟨h,_⟩|⟨_,h⟩⟩
  ·rw[good]at h;cases h
  ·rw[hno]at h;cases h
  ·rw[zAjb,zAjc]at h
   rcases h with ⟨h,_⟩|⟨_,r,st,hrun,h⟩
   ·rw[show zAey.bound=9 from rfl,zAnB]at h;cases h
   ·obtain⟨rfl,rfl⟩:=Run.det hrun zAmv
    simp only at h
    rw[zAf8]at h
    rcases h with ⟨h,_⟩|⟨_,n0,z,col,d,s,t,dr,ad,af,rfl,h2,h3,h4,h5,h6⟩
    ·rw[zAk2]at h;cases h
    ·rw[zAk3]at h4
     rw[zAmw]at h5
     refine⟨n0,z,col,d,s,t,dr,ad,af,rfl,h2,h3,?_,?_,?_⟩
     ·have:=congrArg List.length h4;simpa using this
     ·have:=congrArg List.length h5;simpa using this
     ·have:=congrArg List.length h6;simpa [kHv] using this
 have x0:∀ a b:Value,zE0 0 (.tuple #[a,b])=some a:=λ_ _=>rfl
 have x1:∀ a b:Value,zE0 1 (.tuple #[a,b])=some b:=λ_ _=>rfl
 rw[x0,zAa,x1,zAa]
 simp only[zSf,zBb]
 generalize hH17:h16.push (.cells (chC 0 zCn zCn zCn).toArray zBQ (0,0))=h17
 have k17:Keep zAK h16 h17:=by rw[<- hH17];exact Keep.push
 have a17:At h17 h16.size (chC 0 zCn zCn zCn):=by rw[<- hH17];exact At.push
 obtain⟨h18,st18,a18,k18⟩:=a17.st (n:=4) (ds:=chC 1 d s t) rfl rfl (zOV hc.bd.sl.oneC hc.bs.sl.oneC hc.bt.sl.oneC)
 have g016:=k016.1
 have k018:=(k016.trans k17).fresh k18 λb e=>by omega
 have ls:=hc.bs.sl.len
 have ld:=hc.bd.sl.len
 have lt:=hc.bt.sl.len
 rw[zAd,e2]at ls
 rw[zAd,e1]at ld
 rw[zAd,e3]at lt
 simp only[zBf,zAi,zAa]
 rw[st18,zAW]
 have z0:zAB .no .eql (.int .i64 0) (.int .i64 0)=some (.bool true):=rfl
 have z2:zAB .no .eql (.int .i64 ((2:Nat):Int)) (.int .i64 2)=some (.bool true):=rfl
 have z00:zAB .no .eql (.int .i64 ((0:Nat):Int)) (.int .i64 0)=some (.bool true):=rfl
 have z3:zAB .no .eql (.int .i64 ((3:Nat):Int)) (.int .i64 3)=some (.bool true):=rfl
 rw[z0,zAa]
 refine zDo rfl ?_
 rw[a18.ld (i:=2) rfl,zAa,ls,zAa,z2,zAa]
 show Mpu (zBD (.bool true) (.bool true) (.bool false)) _
 rw[zAv,if_pos rfl,zAa]
 refine zDo rfl ?_
 rw[a18.ld (i:=1) rfl,zAa,ld,zAa,z00,zAa]
 show Mpu (zBD (.bool true) (.bool true) (.bool false)) _
 rw[zAv,if_pos rfl,zAa]
 refine zDo rfl ?_
 rw[a18.ld (i:=3) rfl,zAa,lt,zAa,z3,zAa]
 show Mpu (zBD (.bool true) (.bool true) (.bool false)) _
 rw[zAv,if_pos rfl,zAa]
 exact⟨rfl,k018⟩
def hxL:List UInt8:=[48,49,50,51,52,53,54,55,56,57,97,98,99,100,101,102]
def hxD (n:Nat):UInt8:=hxL.getD n 0
def hx2 (c:UInt8):List UInt8:=[hxD (c.toNat / 16),hxD (c.toNat % 16)]
theorem zAhp {n:Nat}(h:n<16):hxL[n]? = some (hxD n):=by
 unfold hxD
 have:n<hxL.length:=h
 simp[List.getD,this]
theorem u8s:∀ c:UInt8,zAB .no .shr (.int .u8 (c.toNat:Nat)) (.int .u64 4)=some (.int .u8 ((c.toNat / 16:Nat):Int)):=λc=>by
 rw[zSL (by omega)]
 exact congrArg (λz=>some (Value.int .u8 z)) (zSN (k := .u8) (u:=c.toNat) (b:=4) (by decide))
theorem zAje:∀ n:Fin 256,(IntKind.u8.wrap ((BitVec.ofInt IntKind.u8.bits ((n.1:Nat):Int) &&& BitVec.ofInt IntKind.u8.bits 15).toNat:Int))=((n.1 % 16:Nat):Int):=by decide +kernel
theorem u8a:∀ c:UInt8,zAB .no .and (.int .u8 (c.toNat:Nat)) (.int .u8 15)=some (.int .u8 ((c.toNat % 16:Nat):Int)):=λc=>by
 rw[zAJ];simp only[zC8]
 congr 2
 exact zAje ⟨c.toNat,c.toNat_lt⟩
theorem zAmy {a b:Int}:zF6 prg zCl 2 [(0,.int .u8 a),(1,.int .u8 b)]=some #[.int .u8 a,.int .u8 b]:=by kernel_rfl
theorem zAec {d:List UInt8}:((d.map hx2).flatten).length=2*d.length:=by
 induction d with
 | nil=>rfl
 | cons a d ih=>rw[zA0,zA5,zAt,ih];simp[hx2];omega
theorem zAbI {H:zAx}{l:List UInt8}(hl:l.length=32):zAA prg zJS [bv l] H λu H'=>u=str ((l.map hx2).flatten)/\Keep zAK H H':=by
 apply zPo
 unfold zO8
 have ec:Value.cells (bv l)=(zBs l).toArray:=rfl
 rw[ec,zBb]
 generalize hH1:H.push (.cells (zBs l).toArray zB5 (0,0))=h1
 have k1:Keep zAK H h1:=by rw[<- hH1];exact Keep.push
 have a1:At h1 H.size (zBs l):=by rw[<- hH1];exact At.push
 have g1:=k1.1
 have sh:(Value.string ⟨#[48,49,50,51,52,53,54,55,56,57,97,98,99,100,101,102]⟩)=str hxL:=rfl
 rw[sh]
 refine zMk (λu _ h=>Buf (h1.size <= ·) h u ((l.map hx2).flatten)/\Keep zAK H h) (λk hk=>?_) ?_
 ·rw[a1.ldN (n:=32) (by simp[hl]),zAa]
  refine zUY (λu t h=>∃ i:Nat,i<=32/\t = .int .i64 (i:Nat)/\Buf (h1.size <= ·) h u (((l.take i).map hx2).flatten)/\Keep zAK h1 h) (λ_ u _=>match u with | .int _ t=>32-t.toNat|_=>0) ⟨0,zAz _,rfl,.inl ⟨rfl,rfl⟩,Keep.refl⟩ ?_
  rintro u _ h ⟨i,hi,rfl,hb,kh⟩ kk hkk
  have el:zAB .no .lss (.int .i64 (i:Nat)) (.int .i64 32)=some (.bool (decide (i<32))):=by
   rw[zAJ];simp only[zC8];congr 2;rw[decide_eq_decide];omega
  rw[el,zAa,zAl]
  by_cases hlt:i<32
  rotate_left
  ·rw[if_neg (by simpa using hlt)]
   rw[zAr (by omega)]at hb
   exact hk _ _ _ ⟨hb,k1.trans kh⟩
  rw[if_pos (by simpa using hlt)]
  have hg:l[i]? = some (l[i]'(by omega)):=zAj (by omega)
  have hix:ixV 32 false 1 (.agg (zBs l).toArray) (.int .i64 (i:Nat))=some (.int .u8 ((l[i]'(by omega)).toNat:Nat)):=by
   simp only[ixV]
   rw[if_pos ⟨by omega,by omega⟩]
   simp only[zAb,if_false,zCB,zCS]
   rw[zDk]
   unfold zBs
   rw[zAq,hg];rfl
  have htk:((l.take (i+1)).map hx2).flatten=((l.take i).map hx2).flatten++hx2 (l[i]'(by omega)):=by
   rw[zAG,hg,zAF,zBr]
   simp only[Option.toList_some,zA0,List.map_nil,zA5,zCp,zAP]
  generalize l[i]'(by omega)=c at *
  have hc:=c.toNat_lt
  have h1':=zAhp (n:=c.toNat / 16) (by omega)
  have h2':=zAhp (n:=c.toNat % 16) (by omega)
  rw[hix,zAa,u8s,zAa,zLN h1',zAa,u8a,zAa,zLN h2',zAa,zAmy,zCo]
  generalize hH5:h.push (.cells #[.int .u8 ((hxD (c.toNat / 16)).toNat:Nat),.int .u8 ((hxD (c.toNat % 16)).toNat:Nat)] zCl (0,0))=h5
  have k5:Keep zAK h h5:=by rw[<- hH5];exact Keep.push
  have s5:h5.size=h.size+1:=by rw[<- hH5];simp
  have hbs:Bs h5 (.slice (some ⟨h.size,0,none⟩) 2 2) (hx2 c):=by
   rw[<- hH5];exact Bs.mk zCj rfl (by simp) rfl
  have gh:=kh.1
  have hl3:(l.take i).length<=32:=by rw[zA4];omega
  refine(hb.keep k5 λ_ _=>id).app hbs (by rw[zAec];show _+2<=_;omega) (by show h1.size<=h5.size;omega) λv2 h6 hv2 k6=>?_
  rw[zBV (by omega),zAa]
  exact hkk _ _ _ ⟨i+1,by omega,rfl,by rw[htk];exact hv2,(kh.trans k5).fresh k6 λb hb=>hb⟩ (by show 32-(i+1)<32-i;omega)
 ·rintro u _ h ⟨hb,kh⟩
  rw[hb.sl.b2s,zAa]
  exact⟨rfl,kh⟩
theorem zUL {Pd:zA1}{H:zAx}{v:Value}{m:List UInt8}(hx:Sl Pd H v m)(hT:zRs H)(hPd:∀ b,Pd b->b<H.size)(hl:m.length<=1099511627776) :
  zAA prg zMv [v] H λu H'=>u=bv (zAbe (0::m))/\Keep zAK H H':=by
 apply zSH
 unfold zUf
 obtain⟨va,vc,hve,_⟩:=hx.sl
 simp only[zZY,zBb,hve,zAiv,zCo]
 rw[<- hve]
 generalize hH2:H.push (.cells (zBs zPY).toArray zB5 (0,0))=H2
 have k2:Keep zAK H H2:=by rw[<- hH2];exact Keep.push
 have hs2:H2.size=H.size+1:=by rw[<- hH2];simp
 have hr2:H2[H.size]? = some (.cells (zBs zPY).toArray zB5 (0,0)):=by rw[<- hH2];exact zCj
 generalize hH3:H2.push (.cells #[v] zEv (0,0))=H3
 have k3:Keep zAK H2 H3:=by rw[<- hH3];exact Keep.push
 have hs3:H3.size=H2.size+1:=by rw[<- hH3];simp
 have hv3:H3[H2.size]? = some (.cells #[v] zEv (0,0)):=by rw[<- hH3];exact zCj
 have kk:Keep zAK H H3:=k2.trans k3
 have sv:Sl Pd H3 v m:=hx.keep kk λ_ _=>id
 have hvv:SlE 1 (· = H2.size) H3 (.slice (some ⟨H2.size,0,none⟩) 1 1) (zHL ([(v,m)].map (·.1))):=by
  refine⟨⟨_,1,rfl,zAh _,.inr ⟨H2.size,0,rfl,rfl,?_⟩⟩,zQi,zVs (P:=Pd) (H:=H3) ?_⟩
  ·rw[zMw];exact Pt.of hv3
  ·intro x hx;simp at hx;subst hx;exact sv
 refine zAI (zXz (Pd:=Pd) hvv ?_ (hT.keep kk λ_ h=>h.elim) (λb hb=>by omega) (λb hb=>?_) ?_ (by simp)) ?_
 ·intro x hx;simp at hx;subst hx;exact sv
 ·have:=hPd b hb;omega
 ·simp[zKe];omega
 rintro _ H4 ⟨rfl,k4⟩
 have hr4:=(k3.trans k4).at hr2 id
 have e6:(bO 0::zKe [(v,m)])=0::m:=by simp[zKe];rfl
 rw[zRJ hr4 (n:=32) rfl zFa,zAW,zPG (zBm hr4) zFa,zAa]
 refine⟨by rw[e6],?_⟩
 have:=(kk.trans k4)
 refine⟨by simp;exact this.1,λi hi _=>?_⟩
 rw[zAE,if_neg (by omega),this.2 i hi id]
def zSi:List UInt8:=[102,105,108,101]
def zUM (f:zHt):List UInt8:=zUv [zSi,f.name,zW0 f.size,(f.sum.map hx2).flatten]
def zAjB (m:Man):List UInt8:=zAfx m++(m.files.map zUM).flatten
theorem zAmz {a b c d:List UInt8}:zF6 prg zBJ 4 [(0,str a),(1,str b),(2,str c),(3,str d)]=some ([a,b,c,d].map str).toArray:=by kernel_rfl
theorem zZu:∀ {k n:Nat},1<=k->n<10 ^ k->(zHj n).length<=k
 | 0,_,h,_=>by omega
 | 1,n,_,h=>by rw[zHj,if_pos (by omega)];simp
 | k+2,n,_,h=>by
  rw[zHj]
  split
  ·simp
  ·have h1:n / 10<10 ^ (k+1):=by
    rw[Nat.div_lt_iff_lt_mul (by omega)]
    rw[Nat.pow_succ]at h;exact h
   have:=zZu (k:=k+1) (n:=n / 10) (by omega) h1
   rw[zAt,zBc];omega
theorem zAed {n:Int}(h1 : -9223372036854775808<=n)(h:n<=1048576):(zW0 n).length<=100:=by
 unfold zW0
 split
 ·have:=zZu (k:=19) (n:=(-n).toNat) (by omega) (by omega)
  rw[zAS];omega
 ·have:=zZu (k:=19) (n:=n.toNat) (by omega) (by omega);omega
theorem zUN {f:zHt}(w:f.wf)(h1:f.name.length<=64)(h2:f.size<=1048576):(zUM f).length<=300:=by
 have:=zR3 (l:=[zSi,f.name,zW0 f.size,(f.sum.map hx2).flatten])
 have h3:=zAed w.size.1 h2
 have h4:=zAec (d:=f.sum)
 have h5:=w.sum
 unfold zUM
 simp[total,zSi]at this ⊢
 have h6:(List.map (List.length ∘ hx2) f.sum).sum=2*f.sum.length:=by
  rw[<- h4];simp[List.length_flatten]
 omega
theorem zAaR {m:Man}(w:∀ f∈m.files,f.wf)(f3:∀ f∈m.files,f.name.length<=64)(f4:∀ f∈m.files,f.size<=1048576)(f1:m.files.length<=64)(hms:(zAfx m).length<=1099511627):(zAjB m).length<=1099611627:=by
 have:=zP1 (f:=zUM) (n:=300) (l:=m.files) λx hx=>zUN (w x hx) (f3 x hx) (f4 x hx)
 unfold zAjB
 rw[zAt];omega
theorem zAee {P:zA1}{p:Nat}{H:zAx}{v:Value}{l:List zHt}{acc:List UInt8}{k:zAm}
  (hv:SlE 34 P H v (l.map zEj)) (hP:∀ b,P b->b<p) (hb:BAt (p < ·) p H acc) (hp:p<H.size) (hw:∀ d∈l,d.wf) (hok:∀ d∈l,d.name.length<=64/\d.size<=1048576) (hl:l.length<=64) (hacc:acc.length<=1099511627)
  (hT:zXF H) (hN:NG<=p)
  (hk:∀ u h,BAt (p < ·) p h (acc++(l.map zUM).flatten)->Keep (p <= ·) H h->k u h) :
  L1 (λk30=>λt57_2 h31 =>
    Mpu (zAB .no .lss t57_2 (.int .i64 (l.length:Nat))) λt58 =>
    Mcd t58 (
     Mpu (ixS 34 v t57_2) λt59 =>
     Mpu (ldN 34 h31 t59) λt60 =>
     zDC h31 zBn (zBI prg zBn) λt10 h32 =>
     Mwr (stN 34 h32 t10 t60) λh33 =>
     Mpu (fld 0 t10) λt61 =>
     Mpu (ld1 h33 t61) λt62 =>
     Mpu (fld 33 t10) λt63 =>
     Mpu (ld1 h33 t63) λt64 =>
     Mpu (fld 1 t10) λt66 =>
     Mpu (ldN 32 h33 t66) λt67 =>
     zAX prg zFz [t64] h33 λt65 h34 =>
     Mre [(ldN 32 h34 t66,t67),(ld1 h34 t61,t62)] (
     zAX prg zJS [t67] h34 λt68 h35 =>
     Mre [(ld1 h35 t61,t62)] (
     zD2 h35 zBJ 4 (zF6 prg zBJ 4 [(0,str zSi),(1,t62),(2,t65),(3,t68)]) λt69 h36 =>
     zAX prg zEU [t69] h36 λt70 h37 =>
     zAX prg zB2 [Ptr p 0,t70] h37 λ_ h38 =>
     Mpu (zAB .no .add t57_2 (.int .i64 1)) λt72 =>
     k30 t72 h38))) (
     k t57_2 h31)) ((.int .i64 0)) H:=by
 refine zKj (λu h=>∃ i:Nat,i<=l.length/\u = .int .i64 (i:Nat)/\BAt (p < ·) p h (acc++((l.take i).map zUM).flatten)/\Keep (p <= ·) H h) (λu _=>match u with | .int _ t=>l.length-t.toNat|_=>0) ⟨0,zAz _,rfl,by simpa using hb,Keep.refl⟩ ?_
 rintro _ h ⟨i,hi,rfl,hbi,kh⟩ k2 hk2
 rw[zNZ,zAa,zAl]
 by_cases hlt:i<l.length
 rotate_left
 ·rw[if_neg (by simpa using hlt)]
  rw[zAr (by omega)]at hbi
  exact hk _ _ hbi kh
 rw[if_pos (by simpa using hlt)]
 have hg:l[i]? = some l[i]:=zAj hlt
 obtain⟨b,o,hix,hpt,_⟩:=(hv.keep kh λb hb=>by have:=hP b hb;omega).at (i:=i) (x:=zEj l[i]) (by rw[zAq,hg];rfl)
 have hwd:=hw _ (zAH hlt)
 have hnd:=hok _ (zAH hlt)
 have htk:((l.take (i+1)).map zUM).flatten=((l.take i).map zUM).flatten++zUM l[i]:=by
  rw[zAG,hg,zAF,zBr]
  simp only[Option.toList_some,zA0,List.map_nil,zA5,zCp,zAP]
 generalize l[i]=f at *
 rw[hix .i64,zAa,hpt.agg (zDR hwd),zAa]
 simp only[zAc8,zBb,zBf,zAi,zAu,zAa]
 generalize hH6:h.push (.cells (zEj zWC).toArray zBn (0,0))=h6
 have k6:Keep zAK h h6:=by rw[<- hH6];exact Keep.push
 have a6:At h6 h.size (zEj zWC):=by rw[<- hH6];exact At.push
 obtain⟨h7,st7,a7,k7⟩:=a6.st (n:=34) (ds:=zEj f) (zDR zWD) (zDR hwd) zM5
 have g1:=kh.1
 have g6:=k6.1
 have k17:Keep zAK h h7:=k6.fresh k7 λb hb=>by omega
 have kH7:Keep (p <= ·) H h7:=kh.trans (k17.mono λ_ _ h=>h.elim)
 have d0:∀ h',Keep zAK h7 h'->ld1 h' (Ptr h.size 0)=some (str f.name):=λh' k=>(a7.keep k id).ld rfl
 have d1:∀ h',Keep zAK h7 h'->ldN 32 h' (Ptr h.size 1)=some (bv f.sum):=λh' k=>by
  have:=zAc9 (a7.keep k id).pt hwd
  rwa [zAi]at this
 have d33:=zY7 a7.pt hwd
 rw[zAi]at d33
 rw[st7,zAW,d0 _ Keep.refl,zAa,d33,zAa,d1 _ Keep.refl,zAa]
 refine zAI (zAiD hwd.size.1 hwd.size.2 (hT.keep kH7 λb hb=>by omega)) ?_
 rintro _ h8 ⟨rfl,k8⟩
 rw[d1 _ k8,d0 _ k8,zBp,zBp,zA8]
 refine zAI (zAbI hwd.sum) ?_
 rintro _ h8' ⟨rfl,k8'⟩
 rw[d0 _ (k8.trans k8'),zBp,zA8,zAmz,zCo]
 generalize hH9:h8'.push (.cells ([zSi,f.name,zW0 f.size,(f.sum.map hx2).flatten].map str).toArray zBJ (0,0))=h9
 have k9:Keep zAK h8' h9:=by rw[<- hH9];exact Keep.push
 have a9:At h9 h8'.size ([zSi,f.name,zW0 f.size,(f.sum.map hx2).flatten].map str):=by rw[<- hH9];exact At.push
 have hdl:(zUM f).length<=300:=zUN hwd hnd.1 hnd.2
 have hil:=zAed hwd.size.1 hnd.2
 have hxl:=zAec (d:=f.sum)
 have hsl:=hwd.sum
 refine zAI (zAc6 a9 rfl (by simp) (by
  have e:total [zSi,f.name,zW0 f.size,(f.sum.map hx2).flatten]=4+(f.name.length+((zW0 f.size).length+((f.sum.map hx2).flatten).length)):=by
   generalize (f.sum.map hx2).flatten=z
   unfold total
   simp[zSi]
   omega
  rw[e];omega)) ?_
 rintro _ h10 ⟨rfl,k10⟩
 have kk:Keep zAK h h10:=k17.trans ((k8.trans k8').trans (k9.trans k10))
 have hb10:=hbi.keep kk λ_ _=>id
 have hfl:=zP1 (f:=zUM) (n:=300) (l:=l.take i) λx hx=>zUN (hw x (zBw hx)) (hok x (zBw hx)).1 (hok x (zBw hx)).2
 have hti:(l.take i).length<=64:=by rw[zA4];omega
 have hsz:=kk.1
 refine zAI (zIc hb10 (by
  rw[zAt]
  have:(zUv [zSi,f.name,zW0 f.size,(f.sum.map hx2).flatten]).length<=300:=hdl
  omega) λb hb=>by show p<b;omega) ?_
 rintro _ h11 ⟨rfl,hb11,k11⟩
 rw[zBV (by omega),zAa]
 refine hk2 _ _ ⟨i+1,by omega,rfl,?_,?_⟩ (by show l.length-(i+1)<l.length-i;omega)
 ·rw[htk,<- zBg];exact hb11
 ·exact(kh.trans (kk.mono λ_ _ h=>h.elim)).trans (k11.mono λb _ hb=>by rcases hb with hb|hb<;>omega)
theorem zAef {P:zA1}{H:zAx}{m:Man}{vd vc vf:Value}(hv:zLd P H m vd vc vf)(hP:∀ b,P b->b<H.size)(hd:m.deps.length<=1048576)(hc:m.conf.length<=1048576)(hO:zQW H)(hT:zXF H) :
  zAA prg zGw [.agg (zGN m vd vc vf).toArray] H λu H'=>u=(if zEC m=true then .tuple #[str (zAjB m),.int .i64 0] else .tuple #[str [],.int .i64 10])/\Keep zAK H H':=by
 apply zKZ
 unfold zIP
 simp only[zB8,zBb]
 generalize hH1:H.push (.cells (zGN m vd vc vf).toArray zAe (0,0))=H1
 have k1:Keep zAK H H1:=by rw[<- hH1];exact Keep.push
 have a1:At H1 H.size (zGN m vd vc vf):=by rw[<- hH1];exact At.push
 have w:=hv.wf
 rw[zUu a1 w,zAa]
 refine zAI (zR8 (hv.keep k1 λ_ _=>id) (by omega) (by omega) (hO.keep k1 λ_ h=>h.elim)) ?_
 rintro _ h2 ⟨rfl,k2⟩
 have a2:=a1.keep k2 id
 have k12:=k1.trans k2
 rw[zA7,zAa,zAl]
 cases hokG:zEC m
 ·simp only[zA7,zAg,zAf,zAQ,zAU,zAv,zAl,zAa,if_true,if_false,zAb,zAc,decide_true,decide_false,reduceCtorEq,zBT,zEL,zEM,zEI,zEJ,zEK,zBp,zA8]
  exact⟨by trivial,k12⟩
 rw[if_neg (by decide)]
 simp only[zXA,zBb]
 generalize hH3:h2.push (.cells #[.pointer none,.slice none 0 0] zBY (0,0))=h3
 have k3:Keep zAK h2 h3:=by rw[<- hH3];exact Keep.push
 generalize hp:h2.size=p at *
 have hp1:h3[p]? = some (.cells #[.pointer none,.slice none 0 0] zBY (0,0)):=by rw[<- hH3,<- hp];exact zCj
 have hB:BAt (p < ·) p h3 []:=⟨Nat.lt_irrefl _,_,_,hp1,.inl rfl,.inl ⟨rfl,rfl⟩⟩
 have s3:h3.size=p+1:=by rw[<- hH3];simp[hp]
 have a3:=a2.keep k3 id
 have k13:=k12.trans k3
 have g1:=k1.1
 have g12:=k12.1
 have hN:NG<=p:=by have:=hT.sz;omega
 have hq:H.size<p:=by have:=a2.lt;omega
 rw[zBf,zAa,zAu,zDz a3,zAa,zBf,zAa,zAi,zHu a3 w,zAa]
 refine zAI (zWm w.ver (hT.keep k13 λ_ h=>h.elim)) ?_
 rintro _ h4 ⟨rfl,k4⟩
 have a4:=a3.keep k4 id
 refine⟨zDz a4,?_⟩
 have hpk:(Value.string ⟨#[112,97,99,107,97,103,101]⟩)=str zI3:=rfl
 simp only[hpk,zAkl,zCo]
 generalize hH5:h4.push (.cells ([zI3,m.name,zHO m.ver].map str).toArray zBJ (0,0))=h5
 have k5:Keep zAK h4 h5:=by rw[<- hH5];exact Keep.push
 have b5:At h5 h4.size ([zI3,m.name,zHO m.ver].map str):=by rw[<- hH5];exact At.push
 have hok':=(show zY5 m=true by have:=hokG;unfold zEC at this;rw[zAk]at this;exact this.1)
 unfold zY5 at hok'
 simp only[zAk]at hok'
 obtain⟨⟨⟨ok1,ok2⟩,ok3⟩,ok4⟩:=hok'
 have l1:=zQq ok1
 have l2:=zRZ (v:=m.ver) w.ver.p3
 refine zAI (zAc6 b5 rfl (by simp) (by simp[total,zI3];omega)) ?_
 rintro _ h6 ⟨rfl,k6⟩
 have k36:=k4.trans (k5.trans k6)
 have g3:=k36.1
 have hB6:=hB.keep k36 λ_ _=>id
 have hl0:(zUv [zI3,m.name,zHO m.ver]).length<=100:=by
  have:=zR3 (l:=[zI3,m.name,zHO m.ver])
  simp[total,zI3]at this ⊢;omega
 refine zAI (zIc hB6 (by simp;omega) λb hb=>by show p<b;omega) ?_
 rintro _ h7 ⟨rfl,hB7,k7⟩
 rw[zAY]at hB7
 have k17:Keep (p <= ·) H h7:=((k13.trans k36).mono λ_ _ h=>h.elim).trans (k7.mono λb _ hb=>by rcases hb with hb|hb<;>omega)
 have k37:Keep (p <= ·) h3 h7:=(k36.mono λ_ _ h=>h.elim).trans (k7.mono λb _ hb=>by rcases hb with hb|hb<;>omega)
 have a7:=a3.keep k37 (show ¬ p<=H.size by omega)
 have hPp:∀ b,P b->b<p:=λb hb=>by have:=hP b hb;omega
 have hPn:∀ b,P b->¬ p<=b:=λb hb=>by have:=hPp b hb;omega
 have hv7:=hv.keep k17 hPn
 obtain⟨g5,g6,g7⟩:=zHv a7 w
 have hdw:∀ l:List Dep,zOo m.name l=true->∀ d∈l,zJv d.name=true:=λl hl d hd=>by
  unfold zOo at hl
  simp only[zAk,zAw]at hl
  have:=hl.1.1 d hd
  unfold zSR at this
  simp only[zAk]at this
  exact this.1.1
 have g77:=k37.1
 have lend:=hv7.d.len
 rw[zAd]at lend
 refine zOt (λ_ h=>BAt (p < ·) p h (zUv [zI3,m.name,zHO m.ver]++(m.deps.map (zY6 zXN)).flatten)/\Keep (p <= ·) h7 h) (λk hk=>?_) ?_
 ·rw[zBf,zAa,zAi,g5,zAa,lend,zAa]
  exact zXP (w:=zXN) hv7.d hPp hB7 (by omega) w.deps (hdw _ ok3) hd (by decide) (by omega) (hO.keep k17 λb hb=>by omega) (hT.keep k17 λb hb=>by omega) hN λu h hb k=>hk u h ⟨hb,k⟩
 rintro _ h8 ⟨hB8,k8⟩
 have k18:=k17.trans k8
 have a8:=a7.keep k8 (show ¬ p<=H.size by omega)
 have hv8:=hv.keep k18 hPn
 obtain⟨g5,g6,g7⟩:=zHv a8 w
 have lenc:=hv8.c.len
 rw[zAd]at lenc
 have hfl:=zP1 (f:=zY6 zXN) (n:=100) (l:=m.deps) λx hx=>zQr (by decide) (w.deps x hx) (hdw _ ok3 x hx)
 have hd':m.deps.length*100<=1048576*100:=zBq _ hd
 have g8:=k8.1
 refine zOt (λ_ h=>BAt (p < ·) p h (zAfx m)/\Keep (p <= ·) h8 h) (λk hk=>?_) ?_
 ·rw[zBf,zAa,zAi,g6,zAa,lenc,zAa]
  exact zXP (w:=zTF) hv8.c hPp hB8 (by omega) w.conf (hdw _ ok4) hc (by decide) (by rw[zAt];omega) (hO.keep k18 λb hb=>by omega) (hT.keep k18 λb hb=>by omega) hN λu h hb k=>hk u h ⟨by unfold zAfx;rw[<- zBg];exact hb,k⟩
 rintro _ h9 ⟨hB9,k9⟩
 have k19:=k18.trans k9
 have a9:=a8.keep k9 (show ¬ p<=H.size by omega)
 have hv9:=hv.keep k19 hPn
 obtain⟨g5,g6,g7⟩:=zHv a9 w
 have lenf:=hv9.f.len
 rw[zAd]at lenf
 obtain⟨f1,f2,f3⟩:=zM8 hokG
 have f4:=zUF hokG
 have hfl2:=zP1 (f:=zY6 zTF) (n:=100) (l:=m.conf) λx hx=>zQr (by decide) (w.conf x hx) (hdw _ ok4 x hx)
 have hc':m.conf.length*100<=1048576*100:=zBq _ hc
 have hms:(zAfx m).length<=1099511627:=by unfold zAfx;rw[zAt,zAt];omega
 refine zOt (λ_ h=>BAt (p < ·) p h (zAjB m)/\Keep (p <= ·) h9 h) (λk hk=>?_) ?_
 ·rw[zBf,zAa,zAi,g7,zAa,lenf,zAa]
  exact zAee hv9.f hPp hB9 (by have:=k9.1;omega) w.files (λf hf=>⟨f3 f hf,f4 f hf⟩) f1 hms (hT.keep k19 λb hb=>by omega) hN λu h hb k=>hk u h ⟨hb,k⟩
 rintro _ h9' ⟨hB9',k9'⟩
 have hmg:=zAaR w.files f3 f4 f1 hms
 refine zAI (zXB hB9' (by omega)) ?_
 rintro _ h10 ⟨rfl,k10⟩
 refine⟨by rw[if_pos trivial],?_⟩
 have kk:Keep (p <= ·) H h10:=(k19.trans k9').trans (k10.mono λb _ hb=>by omega)
 exact⟨kk.1,λi hi _=>kk.2 i hi (by omega)⟩
def zYi (m:Man):List UInt8:=if zEC m=true then zAjB m else []
theorem zSj {m:Man}(w:∀ f∈m.files,f.wf)(hms:zEC m=true->(zAfx m).length<=1099511627):(zYi m).length<=1099611627:=by
 unfold zYi
 cases h:zEC m
 ·simp
 ·rw[if_pos rfl]
  obtain⟨f1,f2,f3⟩:=zM8 h
  exact zAaR w f3 (zUF h) f1 (hms h)
theorem zTO {m:Man}(w:m.wf)(hok:zEC m=true)(hd:m.deps.length<=1048576)(hc:m.conf.length<=1048576):(zAfx m).length<=1099511627:=by
 have hok':=(show zY5 m=true by have:=hok;unfold zEC at this;rw[zAk]at this;exact this.1)
 unfold zY5 at hok'
 simp only[zAk]at hok'
 obtain⟨⟨⟨ok1,ok2⟩,ok3⟩,ok4⟩:=hok'
 have l1:=zQq ok1
 have l2:=zRZ (v:=m.ver) w.ver.p3
 have hl0:(zUv [zI3,m.name,zHO m.ver]).length<=100:=by
  have:=zR3 (l:=[zI3,m.name,zHO m.ver])
  simp[total,zI3]at this ⊢;omega
 have hdw:∀ l:List Dep,zOo m.name l=true->∀ d∈l,zJv d.name=true:=λl hl d hd=>by
  unfold zOo at hl
  simp only[zAk,zAw]at hl
  have:=hl.1.1 d hd
  unfold zSR at this
  simp only[zAk]at this
  exact this.1.1
 have h1:=zP1 (f:=zY6 zXN) (n:=100) (l:=m.deps) λx hx=>zQr (by decide) (w.deps x hx) (hdw _ ok3 x hx)
 have h2:=zP1 (f:=zY6 zTF) (n:=100) (l:=m.conf) λx hx=>zQr (by decide) (w.conf x hx) (hdw _ ok4 x hx)
 unfold zAfx
 rw[zAt,zAt];omega
theorem zUO {P:zA1}{H:zAx}{m:Man}{vd vc vf:Value}(hv:zLd P H m vd vc vf)(hP:∀ b,P b->b<H.size)(hd:m.deps.length<=1048576)(hc:m.conf.length<=1048576)(hO:zQW H)(hT:zXF H) :
  zAA prg zDJ [.agg (zGN m vd vc vf).toArray] H λu H'=>Sl (λb=>H.size<=b/\b<H'.size) H' u (zYi m)/\Keep zAK H H':=by
 apply zKW
 unfold zIM
 simp only[zB8,zBb]
 generalize hH1:H.push (.cells (zGN m vd vc vf).toArray zAe (0,0))=H1
 have k1:Keep zAK H H1:=by rw[<- hH1];exact Keep.push
 have a1:At H1 H.size (zGN m vd vc vf):=by rw[<- hH1];exact At.push
 have w:=hv.wf
 have hln:=zSj w.files λh=>zTO w h hd hc
 rw[zUu a1 w,zAa]
 refine zAI (zAef (hv.keep k1 λ_ _=>id) (λb hb=>zAM (hP b hb) k1.1) hd hc (hO.keep k1 λ_ h=>h.elim) (hT.keep k1 λ_ h=>h.elim)) ?_
 rintro _ h2 ⟨rfl,k2⟩
 have k02:=k1.trans k2
 have g02:=k02.1
 obtain⟨e,he⟩:∃ e,(if zEC m=true then Value.tuple #[str (zAjB m),.int .i64 0] else .tuple #[str [],.int .i64 10]) = .tuple #[str (zYi m),e]:=by
  unfold zYi
  cases zEC m
  ·exact⟨_,rfl⟩
  ·exact⟨_,rfl⟩
 have x0:∀ a b:Value,zE0 0 (.tuple #[a,b])=some a:=λ_ _=>rfl
 have x1:∀ a b:Value,zE0 1 (.tuple #[a,b])=some b:=λ_ _=>rfl
 rw[he,x0,zAa,x1,zAa]
 refine zAih (by omega) λv h3 hs k3=>?_
 have hk:=k02.trans k3
 refine⟨⟨hs.bs,hs.sl,λb hb=>?_⟩,hk⟩
 have e2:=hs.own b hb
 subst e2
 refine⟨g02,?_⟩
 rcases hs.cases with ⟨a,c,rfl,_⟩|⟨b',o,c,cs,T,f,rfl,_,_,hb',_⟩
 ·cases a<;>simp[blk]at hb
 ·have:=lt_of hb'
  obtain⟨rfl,_⟩:=zHY hb
  exact this
def zOs (m:Man):Item:=⟨m.name,m.ver,zAbe (0::zYi m)⟩
theorem zAaS {m:Man}(w:m.wf):(zOs m).wf:=⟨w.ver,zFa,w.name⟩
theorem zAjf {n s:List UInt8}{x:Ver}(hx:x.wf)(hs:s.length=32):zCM prg zCh [(0,str n),(1,.agg (zEm x).toArray),(2,bv s)]=some (.agg (zFi ⟨n,x,s⟩).toArray):=by
 have k:zLM prg zCh=some ([(0,1),(1,4),(5,32)],(zFi ⟨[],zEc,List.replicate 32 0⟩).toArray):=by kernel_rfl
 obtain⟨a,b,c,e⟩:=Ver.cases3 hx
 obtain⟨p,pre⟩:=x
 simp only at e
 subst e
 have hz:(zFi ⟨[],zEc,List.replicate 32 0⟩).toArray.size=37:=by simp[zFi,zEm,zEc]
 have c1:(str n).cells.size=1:=rfl
 have c2:(Value.agg (zEm ⟨[a,b,c],pre⟩).toArray).cells.size=4:=rfl
 have c3:(bv s).cells.size=32:=by show(zBs s).toArray.size=32;simp[hs]
 have t1:(spl (zFi ⟨[],zEc,List.replicate 32 0⟩).toArray 0 (str n).cells).size=37:=by rw[zI0 (by omega),hz]
 have t2:(spl (spl (zFi ⟨[],zEc,List.replicate 32 0⟩).toArray 0 (str n).cells) 1 (Value.agg (zEm ⟨[a,b,c],pre⟩).toArray).cells).size=37:=by rw[zI0 (by omega),t1]
 rw[zHZ k,zGH (off:=0) (n:=1) rfl rfl (by omega),zGH (off:=1) (n:=4) rfl rfl (by omega),zGH (off:=5) (n:=32) rfl c3 (by omega),zRK]
 have hl:(spl (spl (spl (zFi ⟨[],zEc,List.replicate 32 0⟩).toArray 0 (str n).cells) 1 (Value.agg (zEm ⟨[a,b,c],pre⟩).toArray).cells) 5 (bv s).cells)=(zFi ⟨n,⟨[a,b,c],pre⟩,s⟩).toArray:=by
  apply Array.ext'
  show _=str n::([Value.int .i64 a,.int .i64 b,.int .i64 c,str pre]++zBs s)
  have e3:(bv s).cells=(zBs s).toArray:=rfl
  have e1:(spl (spl (zFi ⟨[],zEc,List.replicate 32 0⟩).toArray 0 (str n).cells) 1 (Value.agg (zEm ⟨[a,b,c],pre⟩).toArray).cells).toList=[str n,.int .i64 a,.int .i64 b,.int .i64 c,str pre]++zBs (List.replicate 32 0):=rfl
  unfold spl at e1 ⊢
  rw[e3]
  simp only[zB7]at e1 ⊢
  rw[e1]
  simp[hs]
 rw[hl];rfl
theorem zAeg {x:Item}(h:x.wf):zF6 prg zCh 1 [(0,.agg (zFi x).toArray)]=some (zFi x).toArray:=by
 obtain⟨z,hz,hzl⟩:=zAcQ
 exact zUn (by kernel_rfl:prg.cellsOf zCh=37) (by omega) (by omega) hz (by simpa using hzl) (by simp[zOl h])
theorem zAjg {P:zA1}{H:zAx}{v:Value}{mv:List MV}(hp:zLB P H v mv)(hP:∀ b,P b->b<H.size)(hl:mv.length<=1000)(hO:zQW H)(hT:zXF H)(hS:zRs H) :
  zAA prg zPC [v] H λu H'=>BufE 37 (λb=>H.size<=b/\b<H'.size) H' u ((mv.map λx=>zOs x.1).map zFi)/\Keep zAK H H':=by
 apply zQ9
 unfold zRO
 let I:Nat->zAm:=λi w h=>BufE 37 (λb=>H.size<=b/\b<h.size) h w (((mv.take i).map λx=>zOs x.1).map zFi)/\Keep zAK H h
 refine zMk (λw _ h=>I mv.length w h) (λk1 hk1=>?_) ?_
 rotate_left
 ·rintro w _ h ⟨b,k⟩
  rw[zAr (zAh _)]at b
  exact⟨b,k⟩
 rw[hp.len,zAa]
 refine zUY (λw z h=>∃ i:Nat,i<=mv.length/\z = .int .i64 (i:Nat)/\I i w h) (λ_ z _=>match z with | .int _ t=>mv.length-t.toNat|_=>0) ⟨0,zAz _,rfl,BufE.nil,Keep.refl⟩ ?_
 rintro t5 _ h4 ⟨i,hi,rfl,b4,k4⟩ k3 hk3
 have g4:=k4.1
 rw[zNZ,zAa,zAl]
 by_cases hlt:i<mv.length
 rotate_left
 ·rw[if_neg (by simpa using hlt)]
  obtain rfl:i=mv.length:=by omega
  exact hk1 _ _ _ ⟨b4,k4⟩
 rw[if_pos (by simpa using hlt)]
 have hg:mv[i]? = some mv[i]:=zAj hlt
 have hm:=zAH hlt
 generalize mv[i]=x at *
 obtain⟨hmx,b,o,hix,hpt,_⟩:=(hp.keep k4 λ_ _=>id).at hg
 have w:=hmx.wf
 have hsx:=hp.sm x hm
 rw[hix .i64,zAa,zM7 hpt w,zAa]
 simp only[zL8,zBb,zBf,zAi,zAu,zAa]
 generalize hH7:h4.push (.cells (zGN ⟨[],zEc,[],[],[]⟩ zCn zCn zCn).toArray zAe (0,0))=h7
 have k7:Keep zAK h4 h7:=by rw[<- hH7];exact Keep.push
 have a7:At h7 h4.size (zGN ⟨[],zEc,[],[],[]⟩ zCn zCn zCn):=by rw[<- hH7];exact At.push
 obtain⟨h8,st8,a8,k8⟩:=a7.st (n:=8) (ds:=mvC x) (zBB zOr) (zBB w) (zFP hmx)
 have k48:Keep zAK h4 h8:=k7.fresh k8 λb hb=>by omega
 have k08:=k4.trans k48
 have g08:=k08.1
 rw[st8,zAW,zDz a8,zAa,zHu a8 w,zAa,a8.ldN (zBB w),zAa]
 refine zAI (zUO (hmx.keep k48 λ_ _=>id) (λb hb=>by have:=hP b hb;omega) (by omega) (by omega) (hO.keep k08 λ_ h=>h.elim) (hT.keep k08 λ_ h=>h.elim)) ?_
 rintro t18 h9 ⟨sl,k9⟩
 have a9:=a8.keep k9 id
 rw[zHu a9 w,zDz a9,zBp,zBp,zA8]
 have hln:=zSj w.files λh=>zTO w h (by omega) (by omega)
 have k09:=k08.trans k9
 refine zAI (zUL sl (hS.keep k09 λ_ h=>h.elim) (λb hb=>hb.2) (by omega)) ?_
 rintro _ h10 ⟨rfl,k10⟩
 have a10:=a9.keep k10 id
 have k410:=(k48.trans k9).trans k10
 rw[zHu a10 w,zDz a10,zBp,zBp,zA8,zAjf w.ver zFa,zAa]
 have hw:=zAaS w
 show zD2 h10 zCh 1 (zF6 prg zCh 1 [(0,.agg (zFi (zOs x.1)).toArray)]) _
 rw[zAeg hw,zCo]
 have hr:=zM9 (x:=zFi (zOs x.1)) (T:=zCh) (h:=h10) (n:=37) (zOl hw) zXC
 have kp:Keep zAK h10 (h10.push (.cells (zFi (zOs x.1)).toArray zCh (0,0))):=Keep.push
 have gp:=kp.1
 have k4p:=k410.trans kp
 have g4p:=k4p.1
 refine((b4.keep k4p λ_ _=>id).mono (G:=λb=>H.size<=b) λb hb=>hb.1).app hr (by omega) (by rw[zAd,zAd,zA4,zBc];omega) (by show H.size<=_;omega) λt h11 b11 k11=>?_
 rw[zBV (by omega),zAa]
 refine hk3 _ _ _ ⟨i+1,by omega,rfl,?_,(k4.trans k4p).fresh k11 λb hb=>hb⟩ (by show mv.length-(i+1)<mv.length-i;omega)
 rw[show mv.take (i+1)=mv.take i++[x] by rw[zAG,hg];rfl,zAF,zAF]
 exact BufE.re b11 λb hb hF=>⟨hF,hb⟩
structure zS5 (P:zA1)(H:zAx)(v:Value)(mv:List MV):Prop where
 h:SlE 8 P H v (mv.map mvC)
 m:∀ x∈mv,zLd P H x.1 x.2.1 x.2.2.1 x.2.2.2
 hl:mv.length<=9223372036854775807
theorem zS5.keep {P S:zA1}{H H':zAx}{v:Value}{mv:List MV}(h:zS5 P H v mv)(k:Keep S H H')(hs:∀ b,P b->¬ S b):zS5 P H' v mv:=⟨h.h.keep k hs,λx hx=>(h.m x hx).keep k hs,h.hl⟩
def zPb (x:MV):Prop:=x.1.name.length<=50/\x.1.ver.pre.length<=50/\x.1.deps.length<=8/\x.1.conf.length<=8/\x.1.files.length<=8
def zP8 (mv:List MV):Prop:=∀ x∈mv,zPb x
theorem zS5.to {P:zA1}{H:zAx}{v:Value}{mv:List MV}(h:zS5 P H v mv)(hs:zP8 mv):zLB P H v mv:=⟨h.h,h.m,λx hx=>by have:=hs x hx;unfold zPb at this;omega⟩
theorem zS5.len {P:zA1}{H:zAx}{v:Value}{mv:List MV}(h:zS5 P H v mv):lenV v=some (.int .i64 (mv.length:Nat)):=by have:=h.h.len;rwa [zAd]at this
theorem zIl {α β:Type}{f:α->β}{l:List α}{i:Nat}{x:α}(h:l[i]? = some x):(l.map f)[i]? = some (f x):=by rw[zAq,h];rfl
theorem zAeh {n m:Nat}:zAB .no .gtr (.int .i64 (n:Nat)) (.int .i64 ((m:Nat):Int))=some (.bool (decide (n > m))):=zAbu
theorem zPs {α:Type}{l:List α}{i:Nat}(h:i<l.length):∃ x,l[i]? = some x/\x∈l:=⟨l[i],zAj h,zAH h⟩
theorem zAf9 {α:Type}{l:List α}{p:α->Prop}(h:∀ x∈l.take l.length,p x):∀ x∈l,p x:=by rwa [zBE]at h
theorem zAei {α:Type}{l:List α}{i:Nat}{x:α}{p:α->Prop}(hx:l[i]? = some x)(h:∀ y∈l.take i,p y)(hp:p x):∀ y∈l.take (i+1),p y:=by
 intro y hy
 rw[zAG,hx]at hy
 rcases zAp.1 hy with hy|hy
 ·exact h y hy
 ·obtain rfl:y=x:=by simpa using hy
  exact hp
theorem zYj {P:zA1}{H:zAx}{v:Value}{mv:List MV}{most:Nat}(hp:zS5 P H v mv) :
  zAA prg zF8 [v,.int .i64 (most:Nat)] H λu H'=>(∃ b,u = .bool b/\(b=true->zP8 mv/\mv.length<=most))/\Keep No H H':=by
 apply zMn
 unfold zKu
 refine range_i hp.len (λi h=>(∀ x∈mv.take i,zPb x)/\Keep No H h) (λh=>zP8 mv/\Keep No H h) ⟨by simp,Keep.refl⟩ (λh hI=>⟨zAf9 hI.1,hI.2⟩) ?_ ?_
 rotate_left
 ·rintro _ h ⟨hs,k⟩
  rw[hp.len,zAa,zZh,zAa]
  exact⟨⟨_,rfl,λe=>⟨hs,of_decide_eq_true e⟩⟩,k⟩
 rintro i h hlt ⟨hall,kh⟩ k1 k3 _ hk3
 obtain⟨x,hx,hm⟩:=zPs hlt
 have hmx:=hp.m x hm
 have w:=hmx.wf
 refine zAnA (λh'=>zPb x/\Keep No h h') (λk5 hk5=>?_) ?_
 rotate_left
 ·rintro _ _ _ _ _ h' ⟨hs,k'⟩
  exact zLC hlt hp.hl (hk3 _ ⟨zAei hx hall hs,kh.trans k'⟩)
 refine zAex (hp.keep kh λ_ _=>id).h (zIl hx) zL8 (zBB zOr) λh8 a8 k8=>?_
 have bad:(∃ b,Value.bool false = .bool b/\(b=true->zP8 mv/\mv.length<=most))/\Keep No H h8:=⟨⟨_,rfl,λe=>by cases e⟩,kh.trans k8⟩
 have a8':At h8 h.size (zGN x.1 x.2.1 x.2.2.1 x.2.2.2):=a8
 obtain⟨g5,g6,g7⟩:=zHv a8' w
 have l1:=(hmx.d.keep (kh.trans k8) λ_ _=>id).len
 have l2:=(hmx.c.keep (kh.trans k8) λ_ _=>id).len
 have hf:=(hmx.keep (kh.trans k8) λ_ _=>id).f
 have l3:=hf.len
 rw[zAd]at l1 l2 l3
 have b8:∀ n:Nat,zAB .no .gtr (.int .i64 (n:Nat)) (.int .i64 8)=some (.bool (decide (n > 8))):=λn=>zAeh (m:=8)
 have b50:∀ n:Nat,zAB .no .gtr (.int .i64 (n:Nat)) (.int .i64 50)=some (.bool (decide (n > 50))):=λn=>zAeh (m:=50)
 simp only[zBf,zAi,zAu,zAa,zDz a8',zAix a8' w,g5,g6,g7,l1,l2,l3,zFu,b8,b50]
 refine zWO (λq=>zWO (λ_=>zWO (λ_=>zWO (λ_=>zNn rfl bad) nofun) nofun) nofun) λq1=>?_
 refine zWO (λq=>zWO (λ_=>zWO (λ_=>zNn rfl bad) nofun) nofun) λq2=>?_
 refine zBP g5 (zBP l1 (zBP (b8 _) ?_))
 refine zWO (λq=>zWO (λ_=>zNn rfl bad) nofun) λq3=>?_
 refine zBP g6 (zBP l2 (zBP (b8 _) ?_))
 refine zWO (λq=>zNn rfl bad) λq4=>?_
 refine zBP g7 (zBP l3 (zBP (b8 _) (zRn (λ_=>bad) λq5=>?_)))
 have hs1:zPb x:=by
  rw[decide_eq_false_iff_not]at q1 q2 q3 q4 q5
  unfold zPb;omega
 refine zBP g7 (zBP l3 (zAhi (λ_ h'=>Keep No h8 h') Keep.refl (λh' k'=>hk5 _ _ _ _ _ _ ⟨hs1,k8.trans k'⟩) ?_))
 intro j h' hj k' k17 hk17
 obtain⟨f,hfx,hfm⟩:=zPs hj
 have wf:=w.files f hfm
 refine zAex (hf.keep k' λ_ _=>id) (zIl hfx) zAc8 (zDR zWD) λh9 a9 k9=>?_
 have k09:=(kh.trans k8).trans (k'.trans k9)
 have bad:(∃ b,Value.bool false = .bool b/\(b=true->zP8 mv/\mv.length<=most))/\Keep No H h9:=⟨⟨_,rfl,λe=>by cases e⟩,k09⟩
 have f1:ld1 h9 (Ptr h'.size 0)=some (str f.name):=zAiw a9.pt
 have f2:ld1 h9 (Ptr h'.size 33)=some (.int .i64 f.size):=by have:=zY7 a9.pt wf;rwa [zAi]at this
 have e80:zAB .no .gtr (.int .i64 (f.name.length:Nat)) (.int .i64 80)=some (.bool (decide (f.name.length > 80))):=zAeh (m:=80)
 have e3:zAB .no .gtr (.int .i64 f.size) (.int .i64 300)=some (.bool (decide (f.size > 300))):=by rw[zAJ];rfl
 simp only[zBf,zAi,zAu,zAa,f1,zFu,e80]
 refine zWO (λq=>zNn rfl bad) λq1=>zBP f2 (zBP e3 (zRn (λ_=>bad) λq2=>?_))
 exact zLC hj (by have:=hs1.2.2.2.2;omega) (hk17 _ (k'.trans k9))
end Go.Proofs.YticdfkoncnnmmaaGreatDoor
