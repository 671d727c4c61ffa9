import Derived.Test.YticdfkoncnnmmaaGreatDoorHE
import Derived.Test.YticdfkoncnnmmaaGreatDoorGO
import Derived.Test.YticdfkoncnnmmaaGreatDoorGI
import Derived.Test.YticdfkoncnnmmaaGreatDoorH9
import Derived.Test.YticdfkoncnnmmaaGreatDoorG6
import Derived.Test.YticdfkoncnnmmaaGreatDoorG1
import Derived.Test.YticdfkoncnnmmaaGreatDoorHB
set_option linter.unusedSimpArgs false
set_option linter.unusedVariables false
set_option maxRecDepth 100000
namespace Go.Proofs.YticdfkoncnnmmaaGreatDoor
open Go.X Go.X.Diff Go.MapKept
def zXz (nm:List UInt8)(ds:List Dep):Man:=⟨nm,⟨[1,0,0],[]⟩,ds,[],[]⟩
def zM7 (n:List UInt8):Dep:=⟨n,⟨[42],zEQ⟩⟩
theorem zZ8 {n:List UInt8}(h:n.length<=9223372036854775807):(zM7 n).wf:=⟨⟨zGZ,by simp[zM7]⟩,h⟩
theorem zWd {nm:List UInt8}{ds:List (List UInt8)}(h:nm.length<=9223372036854775807)(hd:∀ d∈ds,d.length<=9223372036854775807):(zXz nm (ds.map zM7)).wf :=
 ⟨h,⟨rfl,by simp[zXz]⟩,λd h=>by
  obtain⟨n,hn,rfl⟩:=zAo.1 h
  exact zZ8 (hd n hn),(λd h=>absurd h (by simp[zXz])),(λd h=>absurd h (by simp[zXz]))⟩
theorem zAkt {nm:List UInt8}:zCV prg zAi [(0,str nm),(1,.agg (zED ⟨[1,0,0],[]⟩).toArray)]=some (.agg (mvC (zXz nm [],zCq,zCq,zCq)).toArray):=by kernel_rfl
set_option maxHeartbeats 1000000 in
theorem zWe {P:zA2}{H:zAw}{nm:List UInt8}{v:Value}{ds:List (List UInt8)}(hT:zZF H)(hn:nm.length<=9223372036854775807)(hd:∀ d∈ds,d.length<=9223372036854775807)(hv:SlE 1 P H v (zKl ds))(hl:ds.length<=1000) :
  zAz prg zFh [str nm,str [49,46,48,46,48],v] H λu H'=>(∃ vd,u = .agg (mvC (zXz nm (ds.map zM7),vd,zCq,zCq)).toArray/\BufE 6 (λb=>H.size<=b/\b<H'.size) H' vd ((ds.map zM7).map zFl))/\Keep zAM H H':=by
 apply zME
 unfold zLa
 simp only[zMS,zBa]
 generalize hH1:H.push (.cells (zGI ⟨[],zEQ,[],[],[]⟩ zCq zCq zCq).toArray zAi (0,0))=H1
 have k1:Keep zAM H H1:=by rw[<- hH1];exact Keep.push
 have a1:At H1 H.size (zGI ⟨[],zEQ,[],[],[]⟩ zCq zCq zCq):=by rw[<- hH1];exact At.push
 have l1:=a1.lt
 have T1:=hT.keep k1 λ_ h=>h.elim
 refine zAJ (zAhR T1.err T1.pow (by simp)) ?_
 rintro u h2 ⟨hR,k2⟩
 have hvw:(⟨[1,0,0],[]⟩:Ver).wf:=⟨rfl,by simp⟩
 have hok:zGl ⟨[1,0,0],[]⟩=true:=by decide +kernel
 have hs:zEf ⟨[1,0,0],[]⟩=[49,46,48,46,48]:=by decide +kernel
 obtain rfl:u=Value.tuple #[.agg (zED ⟨[1,0,0],[]⟩).toArray,.int .i64 0]:=by
  rcases hR with ⟨v',hww,ho,hs',rfl⟩|⟨hno,rfl⟩
  ·rw[show v'=⟨[1,0,0],[]⟩ from zAeS hww.p3 hvw.p3 ho hok (by rw[hs',hs])]
  ·exact absurd hs (hno ⟨[1,0,0],[]⟩ hvw.p3 hok)
 have x0:∀ a b:Value,zFg 0 (.tuple #[a,b])=some a:=λ_ _=>rfl
 have x1:∀ a b:Value,zFg 1 (.tuple #[a,b])=some b:=λ_ _=>rfl
 rw[x0,zAa,x1,zAa]
 have zv:zBE prg zAU=some (zED zEQ).toArray:=by kernel_rfl
 simp only[zv,zBa]
 generalize hH3:h2.push (.cells (zED zEQ).toArray zAU (0,0))=h3
 have k3:Keep zAM h2 h3:=by rw[<- hH3];exact Keep.push
 have a3:At h3 h2.size (zED zEQ):=by rw[<- hH3];exact At.push
 obtain⟨h4,st4,a4,k4⟩:=a3.st (n:=4) (ds:=zED ⟨[1,0,0],[]⟩) (zDL zGZ) (zDL hvw) zMe
 have k24:Keep zAM h2 h4:=k3.fresh k4 λb hb=>by omega
 have k14:=k2.trans k24
 have g14:=k14.1
 rw[st4,zAV,a4.ldN (zDL hvw),zAa,zAkt,zAa]
 generalize hH5:h4.push (.cells (zGI ⟨[],zEQ,[],[],[]⟩ zCq zCq zCq).toArray zAi (0,0))=h5
 have k5:Keep zAM h4 h5:=by rw[<- hH5];exact Keep.push
 have a5:At h5 h4.size (zGI ⟨[],zEQ,[],[],[]⟩ zCq zCq zCq):=by rw[<- hH5];exact At.push
 have s5:h5.size=h4.size+1:=by rw[<- hH5];simp
 have w0:∀ i,(zXz nm ((ds.take i).map zM7)).wf:=λi=>zWd hn λd h=>hd d (zBs h)
 have mone:∀ {m:Man} {t:Value},t.oneCell'=true->∀ c∈mvC (m,t,zCq,zCq),c.oneCell'=true:=λht c hc=>by
  rcases zAr.1 hc with rfl|hc
  ·rfl
  rcases zAt.1 hc with hc|hc
  ·exact zMe c hc
  ·simp only[zAr,zCG,or_false]at hc
   rcases hc with rfl|rfl|rfl
   ·exact ht
   ·rfl
   ·rfl
 obtain⟨h6,st6,a6,k6⟩:=a5.st (n:=8) (ds:=mvC (zXz nm [],zCq,zCq,zCq)) (zBK zOD) (zBK (w0 0)) (mone rfl)
 have k46:Keep zAM h4 h6:=k5.fresh k6 λb hb=>by omega
 have k16:=k14.trans k46
 have g6:=k6.1
 rw[st6,zAV]
 have hlen:=hv.len
 rw[zH6]at hlen
 let I:Nat->zAw->Prop:=λi h=>∃ t,At h h4.size (mvC (zXz nm ((ds.take i).map zM7),t,zCq,zCq))/\BufE 6 (λb=>h6.size<=b/\b<h.size) h t (((ds.take i).map zM7).map zFl)/\Keep (· = h4.size) h6 h
 refine zNW (λ_ h=>I ds.length h) (λk7 hk7=>?_) ?_
 rotate_left
 ·rintro _ h8 ⟨t,a8,b8,k8⟩
  have w8:=w0 ds.length
  rw[zAs (zAh _)]at a8 b8 w8
  have k18:Keep zAM H1 h8:=k16.fresh k8 λb e=>by omega
  obtain⟨h14,st14,a14,k14'⟩:=(a1.keep k18 id).st (n:=8) (ds:=mvC (zXz nm (ds.map zM7),t,zCq,zCq)) (zBK zOD) (zBK w8) (mone b8.sl.oneC)
  rw[a8.ldN (zBK w8),zAa,st14,zAV,a14.ldN (zBK w8),zAa]
  have g14':=k14'.1
  have g16:=k16.1
  have g1:=k1.1
  exact⟨⟨t,rfl,(b8.keep k14' λb hb=>by omega).mono λb hb=>by omega⟩,(k1.trans k18).fresh k14' λb e=>by omega⟩
 rw[hlen,zAa]
 refine zKa (λw h=>∃ i:Nat,i<=ds.length/\w = .int .i64 (i:Nat)/\I i h) (λw _=>match w with | .int _ t=>ds.length-t.toNat|_=>0) ⟨0,zAA _,rfl,zCq,a6,BufE.nil,Keep.refl⟩ ?_
 rintro _ h10 ⟨i,hi,rfl,t,a10,b10,k10⟩ k9 hk9
 have g10:=k10.1
 rw[zOC,zAa,zAl]
 by_cases hlt:i<ds.length
 rotate_left
 ·rw[if_neg (by simpa using hlt)]
  obtain rfl:i=ds.length:=by omega
  exact hk7 _ _ ⟨t,a10,b10,k10⟩
 rw[if_pos (by simpa using hlt)]
 have hg:ds[i]? = some ds[i]:=zAj hlt
 have hm:=zAG hlt
 generalize ds[i]=d at *
 have hdl:=hd d hm
 have k010:Keep zAM H h10:=(k1.trans k16).fresh k10 λb e=>by have:=k1.1;omega
 obtain⟨b,o,hix,hpt,_⟩:=(hv.keep k010 λ_ _=>id).at (i:=i) (x:=[str d]) (by simpa [zGD] using hg)
 have s42:(Value.string ⟨#[42]⟩)=str [42]:=rfl
 simp only[zBf,zAg,zAa]
 rw[hix .i64,zAa,hpt.cell0 rfl,zAa,(zHm a10 (w0 i)).1,zAa,s42,b_W,zAa]
 show Mpu (zCV prg zAL [(0,str (zM7 d).name),(1,.agg (zFf (zM7 d).want).toArray)]) _
 have hds:=zZ8 hdl
 rw[zAdD hds,zAa,zTg hds,zCh]
 have hr:=zOG (x:=zFl (zM7 d)) (T:=zAL) (h:=h10) (n:=6) (zEd hds) zKZ
 have kp:Keep zAM h10 (h10.push (.cells (zFl (zM7 d)).toArray zAL (0,0))):=Keep.push
 have gp:=kp.1
 have htl:(ds.take i).length=i:=by rw[zAZ];omega
 refine((b10.keep kp λ_ _=>id).mono (G:=λb=>h6.size<=b) λb hb=>hb.1).app hr (by omega) (by rw[zAf,zAf,zBe];omega) (by show h6.size<=_;omega) λt' h12 b12 k12=>?_
 have g12:=k12.1
 have hv4:=zDL hvw
 obtain⟨h13,st13,a13,k13⟩:=((a10.keep kp id).keep k12 λe=>by omega).st1 (i:=5) (v:=t') (by have:(mvC (zXz nm ((ds.take i).map zM7),t,zCq,zCq)).length=8:=zBK (w0 i);omega) b12.sl.oneC
 have hts:ds.take (i+1)=ds.take i++[d]:=by rw[zAI,hg];rfl
 rw[st13,zAV,zBV (by omega),zAa]
 refine hk9 _ _ ⟨i+1,by omega,rfl,t',?_,?_,?_⟩ (by show ds.length-(i+1)<ds.length-i;omega)
 ·have e:(mvC (zXz nm ((ds.take i).map zM7),t,zCq,zCq)).set 5 t'=mvC (zXz nm ((ds.take (i+1)).map zM7),t',zCq,zCq):=by simp[mvC,zGI,zXz,List.set_append,hv4,zED]
  rw[e]at a13;exact a13
 ·rw[hts,zAE,zAE]
  have g13:=k13.1
  exact((BufE.re b12 (G:=λb=>h6.size<=b/\b<h12.size) λb h1 h2=>⟨h2,h1⟩).keep k13 λb hb e=>by omega).mono λb hb=>by omega
 ·exact((k10.trans (kp.mono λ_ _ h=>h.elim)).fresh' k12 λb hb => .inr hb).trans k13
def kA:Man:=zXz [97] ([].map zM7)
def kB:Man:=zXz [98] ([[99]].map zM7)
def kC:Man:=zXz [99] ([].map zM7)
def k1P:Pk:=(kB,[])
def k2P:Pk:=(kC,[])
def zAea:zQz:=⟨1,[98],⟨[42],zEQ⟩,9⟩
theorem zAiD:zAea.wf:=⟨by simp[zAea],⟨zGZ,by simp[zAea]⟩⟩
theorem zAgU:zAaZ [] k1P=0/\zS0 [] k1P=[k1P]:=by
 have h:zYL k1P=true:=by decide +kernel
 exact⟨by unfold zAaZ;rw[h];rfl,by unfold zS0;rw[h];rfl⟩
theorem zAgV:zAaZ [k1P] k2P=0/\zS0 [k1P] k2P=[k1P,k2P]:=by
 have h:zYL k2P=true:=by decide +kernel
 have h2:[k1P].find? (zKo k2P.1.name k2P.1.ver)=none:=by
  rw[zC4]
  intro x hx
  rw[zAF.1 hx]
  decide +kernel
 exact⟨by unfold zAaZ;rw[h,h2];rfl,by unfold zS0;rw[h,h2];rfl⟩
def kHv:List Man:=[kA,kB,kC]
def kWs:List Dep:=[⟨[98],⟨[42],zEQ⟩⟩,⟨[97],⟨[61],⟨[1,0,0],[]⟩⟩⟩]
theorem zAiE:zEW [kA]=true:=by decide +kernel
theorem zAlT:zQV zAea=true:=by decide +kernel
theorem zAiF:zEO [kA] [k1P,k2P]=kHv:=by
 have h1:zYN [kA] kB=true:=by decide +kernel
 have h2:zYN [kA] kC=true:=by decide +kernel
 unfold zEO
 show [kA]++[kB,kC].filter (zYN [kA])=_
 rw[zCb,h1,zCb,h2];rfl
theorem zAiG:zST [kA] zAea.name zAea.want=kWs:=rfl
theorem zAm2:zIe kHv kWs 9=true:=by decide +kernel
theorem zAlU:Run kHv 9 (.sol [] kWs) 0 (.ok [1,0,2]) 3:=by
 have e1:zPK kHv ⟨[98],⟨[42],zEQ⟩⟩=[1]:=by decide +kernel
 have e2:zPK kHv ⟨[97],⟨[61],⟨[1,0,0],[]⟩⟩⟩=[0]:=by decide +kernel
 have e3:zPK kHv (zM7 [99])=[2]:=by decide +kernel
 refine Run.go (d:=⟨[98],⟨[42],zEQ⟩⟩) (ws:=[⟨[97],⟨[61],⟨[1,0,0],[]⟩⟩⟩]) (by decide +kernel) ?_
 rw[e1]
 refine Run.down (by decide) (by decide +kernel) ?_ (by simp)
 refine Run.go (d:=⟨[97],⟨[61],⟨[1,0,0],[]⟩⟩⟩) (ws:=[zM7 [99]]) (by decide +kernel) ?_
 rw[e2]
 refine Run.down (by decide) (by decide +kernel) ?_ (by simp)
 refine Run.go (d:=zM7 [99]) (ws:=[]) (by decide +kernel) ?_
 rw[e3]
 refine Run.down (by decide) (by decide +kernel) ?_ (by simp)
 exact Run.done
theorem zAfJ:(zG0 kHv [1,0,2]).map (gM kHv)=kHv:=by
 have h:zG0 kHv [1,0,2]=[0,1,2]:=by decide +kernel
 rw[h];rfl
theorem zAku:zEW kHv=true:=by decide +kernel
theorem zAkv:[kA].filter (λm=>!zJZ kHv m)=[]:=by
 have h:zJZ kHv kA=true:=by decide +kernel
 rw[zCb,h];rfl
theorem zAlV:(kHv.filter λm=>!zJZ [kA] m)=[kB,kC]:=by
 have h1:zJZ [kA] kA=true:=by decide +kernel
 have h2:zJZ [kA] kB=false:=by decide +kernel
 have h3:zJZ [kA] kC=false:=by decide +kernel
 unfold kHv
 rw[zCb,h1,zCb,h2,zCb,h3];rfl
theorem zAkw {x:MV}(h:x.1.wf):zCV prg zA5 [(0,.agg (mvC x).toArray)]=some (.agg (pvC (x,zCq,[])).toArray):=by
 have k:zMu prg zA5=some ([(0,8),(8,1)],(pvC zPW).toArray):=by kernel_rfl
 obtain⟨a,b,c,e⟩:=Ver.cases3 h.ver
 obtain⟨⟨n,⟨p,pre⟩,d1,d2,d3⟩,v1,v2,v3⟩:=x
 simp only at e
 subst e
 rw[zIv k];rfl
theorem zAiH:zCV prg zFt [(0,.int .i64 1),(1,str [98]),(2,.agg (zFf ⟨[42],zEQ⟩).toArray),(3,.int .i64 9)]=some (.agg (zSt zAea).toArray):=by kernel_rfl
theorem zAa3 {s:List UInt8}:zGf prg zBd 1 [(0,str s)]=some #[str s]:=zAlj
set_option maxHeartbeats 2000000 in
theorem zXA {H:zAw}(hT:zZF H)(hS:zTa H):zAz prg zD4 [] H λu H'=>u = .bool true/\Keep zAM H H':=by
 apply zL7
 unfold zKe
 have hNG:NG<=H.size:=hS.sz
 have s97:(Value.string ⟨#[97]⟩)=str [97]:=rfl
 have s98:(Value.string ⟨#[98]⟩)=str [98]:=rfl
 have s99:(Value.string ⟨#[99]⟩)=str [99]:=rfl
 have sv1:(Value.string ⟨#[49,46,48,46,48]⟩)=str [49,46,48,46,48]:=rfl
 have s42:(Value.string ⟨#[42]⟩)=str [42]:=rfl
 rw[s97,s98,s99,sv1,s42]
 have pn:∀ x,zAC .ptr .eql (Ptr x 0) (.pointer none)=some (.bool false):=λx=>rfl
 have ne0:∀ n:Int,zAC .no .neq (.int .i64 n) (.int .i64 0)=some (.bool (!decide (n=0))):=λn=>neI
 refine zAJ zXv ?_
 rintro _ h1 ⟨rfl,q1,k1⟩
 have g1:=k1.1
 rw[pn,zAa]
 refine zDS rfl ?_
 rw[zAa3,zCh]
 have hr:=zOG (x:=[str [99]]) (T:=zBd) (h:=h1) (n:=1) rfl (λc hc=>by rw[zAF.1 hc];rfl)
 have k3:Keep zAM h1 (h1.push (.cells [str [99]].toArray zBd (0,0))):=Keep.push
 generalize h1.push (.cells [str [99]].toArray zBd (0,0))=h3 at *
 have k03:=k1.trans k3
 refine zAJ (zWe (nm:=[98]) (ds:=[[99]]) (hT.keep k03 λ_ h=>h.elim) (by simp) (by simp) hr (by simp)) ?_
 rintro _ h4 ⟨⟨vd,rfl,bd⟩,k4⟩
 have k04:=k03.trans k4
 have g04:=k04.1
 have g34:=k03.1
 have wB:kB.wf:=zWd (by simp) (by simp)
 have wC:kC.wf:=zWd (by simp) (by simp)
 have wA:kA.wf:=zWd (by simp) (by simp)
 let xB:PW:=((kB,vd,zCq,zCq),zCq,[])
 have hxB:zAfB (λb=>h3.size<=b/\b<h4.size) h4 xB:=⟨⟨bd.sl,SlE.nil,SlE.nil,wB⟩,⟨SlE.nil,λx hx=>(by cases hx)⟩,(by decide:kB.deps.length<=1000),(by decide:kB.conf.length<=1000),(by decide:kB.files.length<=1000)⟩
 show Mpu (zCV prg zA5 [(0,.agg (mvC xB.1).toArray)]) _
 rw[zAkw (x:=xB.1) wB,zAa]
 have q4:=(q1.keep k3 λ_ _=>id).keep k4 λ_ _=>id
 refine zAJ (zAix (x:=xB) q4 hxB (λb hb=>hb.2) (by simp) (hT.keep k04 λ_ h=>h.elim).ops (hS.keep k04 λ_ h=>h.elim)) ?_
 rintro _ h5 ⟨rfl,⟨R5,q5,hR5⟩,k5⟩
 have k05:Keep zAM H h5:=k04.fresh k5 λb e=>by omega
 have g5:=k5.1
 have ep:zLR xB=k1P:=rfl
 rw[ep,zAgU.1,ne0,zAa]
 rw[ep,zAgU.2]at q5
 rw[zAv,if_neg (by decide),zAa]
 refine zDS rfl ?_
 refine zAJ (zWe (P:=λ_=>False) (nm:=[99]) (ds:=[]) (hT.keep k05 λ_ h=>h.elim) (by simp) (by simp) SlE.nil (by simp)) ?_
 rintro _ h8 ⟨⟨vd2,rfl,bd2⟩,k8⟩
 have k08:=k05.trans k8
 have g8:=k8.1
 let xC:PW:=((kC,vd2,zCq,zCq),zCq,[])
 have hxC:zAfB (λb=>h5.size<=b/\b<h8.size) h8 xC:=⟨⟨bd2.sl,SlE.nil,SlE.nil,wC⟩,⟨SlE.nil,λx hx=>(by cases hx)⟩,(by decide:kC.deps.length<=1000),(by decide:kC.conf.length<=1000),(by decide:kC.files.length<=1000)⟩
 show Mpu (zCV prg zA5 [(0,.agg (mvC xC.1).toArray)]) _
 rw[zAkw (x:=xC.1) wC,zAa]
 refine zAJ (zAix (x:=xC) (q5.keep k8 λ_ _=>id) hxC (λb hb=>hb.2) (by simp) (hT.keep k08 λ_ h=>h.elim).ops (hS.keep k08 λ_ h=>h.elim)) ?_
 rintro _ h9 ⟨rfl,⟨R9,q9,hR9⟩,k9⟩
 have k09:Keep zAM H h9:=k08.fresh k9 λb e=>by
  rcases hR5 b e with e|e<;>omega
 have g9:=k9.1
 have ep2:zLR xC=k2P:=rfl
 rw[ep2,zAgV.1,ne0,zAa]
 rw[ep2,zAgV.2]at q9
 rw[zAv,if_neg (by decide),zAa]
 refine zDS rfl ?_
 refine zAJ (zRF q9) ?_
 rintro _ _ ⟨rfl,rfl⟩
 have n2:zAC .no .neq (.int .i64 (([k1P,k2P].length:Nat):Int)) (.int .i64 2)=some (.bool false):=rfl
 rw[n2,zAa]
 show Mpu (zBH (.bool false) (.bool true) (.bool false)) _
 rw[zAv,if_neg (by decide),zAa,zAl,if_neg (by decide)]
 refine zAJ (zWe (P:=λ_=>False) (nm:=[97]) (ds:=[]) (hT.keep k09 λ_ h=>h.elim) (by simp) (by simp) SlE.nil (by simp)) ?_
 rintro _ h14 ⟨⟨vd3,rfl,bd3⟩,k14⟩
 have k014:=k09.trans k14
 have g14:=k14.1
 have g09:=k09.1
 let xA:MV:=(kA,vd3,zCq,zCq)
 have hmA:zMf (λb=>h9.size<=b/\b<h14.size) h14 kA vd3 zCq zCq:=⟨bd3.sl,SlE.nil,SlE.nil,wA⟩
 show zD1 h14 zAi 1 (zGf prg zAi 1 [(0,.agg (mvC xA).toArray)]) _
 rw[zSs (zBK wA),zCh]
 have hrA:=zOG (x:=mvC xA) (T:=zAi) (h:=h14) (n:=8) (zBK wA) (zG1 (x:=xA) hmA)
 have k15:Keep zAM h14 (h14.push (.cells (mvC xA).toArray zAi (0,0))):=Keep.push
 have s15:(h14.push (.cells (mvC xA).toArray zAi (0,0))).size=h14.size+1:=by simp
 generalize h14.push (.cells (mvC xA).toArray zAi (0,0))=h15 at *
 have k015:=k014.trans k15
 have hp:zNM (λb=>h9.size<=b/\b<h15.size) h15 (.slice (some ⟨h14.size,0,none⟩) 1 1) [xA]:=⟨hrA.mono λb hb=>by omega,λx hx=>by
  rw[zAF.1 hx]
  exact(hmA.keep k15 λ_ _=>id).mono λb hb=>by omega,λx hx=>by rw[zAF.1 hx];exact⟨(by decide:kA.deps.length<=1000),(by decide:kA.conf.length<=1000)⟩⟩
 rw[b_W,zAa,zAiH,zAa]
 refine zAJ (zAiC hp ((q9.keep k14 λ_ _=>id).keep k15 λ_ _=>id) (λb hb=>hb.2) zAiD rfl (by simp) (hT.keep k015 λ_ h=>h.elim).ops (by have:=k015.1;omega)) ?_
 rintro u h16 ⟨hu,k16⟩
 have k016:=k015.trans k16
 have hin:zBR [xA]=[kA]:=rfl
 rw[hin]at hu
 have good:(zEW [kA]&&zQV zAea)=true:=by rw[zAiE,zAlT];rfl
 have hno:[kA].find? (λm=>decide (m.name=zAea.name))=none:=by decide +kernel
 obtain⟨n0,z,col,d,s,t,dr,ad,af,rfl,hz,hc,e1,e2,e3⟩:∃ n0 z col d s t dr ad af,u = .tuple #[.agg (chC 1 d s t).toArray,.int .i64 0]/\h15.size<=z/\ChI n0 z 1 col d s t dr ad af h16/\dr.length=0/\ad.length=2/\af.length=3:=by
  rcases hu with ⟨h,_⟩|⟨_,⟨h,_⟩|⟨_,h⟩⟩
  ·rw[good]at h;cases h
  ·rw[hno]at h;cases h
  ·rw[zAiF,zAiG]at h
   rcases h with ⟨h,_⟩|⟨_,r,st,hrun,h⟩
   ·rw[show zAea.bound=9 from rfl,zAm2]at h;cases h
   ·obtain⟨rfl,rfl⟩:=Run.det hrun zAlU
    simp only at h
    rw[zAfJ]at h
    rcases h with ⟨h,_⟩|⟨_,n0,z,col,d,s,t,dr,ad,af,rfl,h2,h3,h4,h5,h6⟩
    ·rw[zAku]at h;cases h
    ·rw[zAkv]at h4
     rw[zAlV]at h5
     refine⟨n0,z,col,d,s,t,dr,ad,af,rfl,h2,h3,?_,?_,?_⟩
     ·have:=congrArg List.length h4;simpa using this
     ·have:=congrArg List.length h5;simpa using this
     ·have:=congrArg List.length h6;simpa [kHv] using this
 have x0:∀ a b:Value,zFg 0 (.tuple #[a,b])=some a:=λ_ _=>rfl
 have x1:∀ a b:Value,zFg 1 (.tuple #[a,b])=some b:=λ_ _=>rfl
 rw[x0,zAa,x1,zAa]
 simp only[zTj,zBa]
 generalize hH17:h16.push (.cells (chC 0 zCq zCq zCq).toArray zB3 (0,0))=h17
 have k17:Keep zAM h16 h17:=by rw[<- hH17];exact Keep.push
 have a17:At h17 h16.size (chC 0 zCq zCq zCq):=by rw[<- hH17];exact At.push
 obtain⟨h18,st18,a18,k18⟩:=a17.st (n:=4) (ds:=chC 1 d s t) rfl rfl (zQW hc.bd.sl.oneC hc.bs.sl.oneC hc.bt.sl.oneC)
 have g016:=k016.1
 have k018:=(k016.trans k17).fresh k18 λb e=>by omega
 have ls:=hc.bs.sl.len
 have ld:=hc.bd.sl.len
 have lt:=hc.bt.sl.len
 rw[zAf,e2]at ls
 rw[zAf,e1]at ld
 rw[zAf,e3]at lt
 simp only[zBf,zAg,zAa]
 rw[st18,zAV]
 have z0:zAC .no .eql (.int .i64 0) (.int .i64 0)=some (.bool true):=rfl
 have z2:zAC .no .eql (.int .i64 ((2:Nat):Int)) (.int .i64 2)=some (.bool true):=rfl
 have z00:zAC .no .eql (.int .i64 ((0:Nat):Int)) (.int .i64 0)=some (.bool true):=rfl
 have z3:zAC .no .eql (.int .i64 ((3:Nat):Int)) (.int .i64 3)=some (.bool true):=rfl
 rw[z0,zAa]
 refine zDS rfl ?_
 rw[a18.ld (i:=2) rfl,zAa,ls,zAa,z2,zAa]
 show Mpu (zBH (.bool true) (.bool true) (.bool false)) _
 rw[zAv,if_pos rfl,zAa]
 refine zDS rfl ?_
 rw[a18.ld (i:=1) rfl,zAa,ld,zAa,z00,zAa]
 show Mpu (zBH (.bool true) (.bool true) (.bool false)) _
 rw[zAv,if_pos rfl,zAa]
 refine zDS rfl ?_
 rw[a18.ld (i:=3) rfl,zAa,lt,zAa,z3,zAa]
 show Mpu (zBH (.bool true) (.bool true) (.bool false)) _
 rw[zAv,if_pos rfl,zAa]
 exact⟨rfl,k018⟩
def hxL:List UInt8:=[48,49,50,51,52,53,54,55,56,57,97,98,99,100,101,102]
def hxD (n:Nat):UInt8:=hxL.getD n 0
def hx2 (c:UInt8):List UInt8:=[hxD (c.toNat / 16),hxD (c.toNat % 16)]
theorem zAgW {n:Nat}(h:n<16):hxL[n]? = some (hxD n):=by
 unfold hxD
 have:n<hxL.length:=h
 simp[List.getD,this]
theorem u8s:∀ c:UInt8,zAC .no .shr (.int .u8 (c.toNat:Nat)) (.int .u64 4)=some (.int .u8 ((c.toNat / 16:Nat):Int)):=λc=>by
 rw[zSb (by omega)]
 exact congrArg (λz=>some (Value.int .u8 z)) (zSd (k := .u8) (u:=c.toNat) (b:=4) (by decide))
theorem zAiI:∀ n:Fin 256,(IntKind.u8.wrap ((BitVec.ofInt IntKind.u8.bits ((n.1:Nat):Int) &&& BitVec.ofInt IntKind.u8.bits 15).toNat:Int))=((n.1 % 16:Nat):Int):=by decide +kernel
theorem u8a:∀ c:UInt8,zAC .no .and (.int .u8 (c.toNat:Nat)) (.int .u8 15)=some (.int .u8 ((c.toNat % 16:Nat):Int)):=λc=>by
 rw[zAH];simp only[zC3]
 congr 2
 exact zAiI ⟨c.toNat,c.toNat_lt⟩
theorem zAlW {a b:Int}:zGf prg zCg 2 [(0,.int .u8 a),(1,.int .u8 b)]=some #[.int .u8 a,.int .u8 b]:=by kernel_rfl
theorem zAdJ {d:List UInt8}:((d.map hx2).flatten).length=2*d.length:=by
 induction d with
 | nil=>rfl
 | cons a d ih=>rw[zAW,zA7,zAq,ih];simp[hx2];omega
theorem zAa4 {H:zAw}{l:List UInt8}(hl:l.length=32):zAz prg zJB [bv l] H λu H'=>u=str ((l.map hx2).flatten)/\Keep zAM H H':=by
 apply zO9
 unfold zOT
 have ec:Value.cells (bv l)=(zBB l).toArray:=rfl
 rw[ec,zBa]
 generalize hH1:H.push (.cells (zBB l).toArray zCf (0,0))=h1
 have k1:Keep zAM H h1:=by rw[<- hH1];exact Keep.push
 have a1:At h1 H.size (zBB l):=by rw[<- hH1];exact At.push
 have g1:=k1.1
 have sh:(Value.string ⟨#[48,49,50,51,52,53,54,55,56,57,97,98,99,100,101,102]⟩)=str hxL:=rfl
 rw[sh]
 refine zMh (λu _ h=>Buf (h1.size <= ·) h u ((l.map hx2).flatten)/\Keep zAM H h) (λk hk=>?_) ?_
 ·rw[a1.ldN (n:=32) (by simp[hl]),zAa]
  refine zUv (λu t h=>∃ i:Nat,i<=32/\t = .int .i64 (i:Nat)/\Buf (h1.size <= ·) h u (((l.take i).map hx2).flatten)/\Keep zAM h1 h) (λ_ u _=>match u with | .int _ t=>32-t.toNat|_=>0) ⟨0,zAA _,rfl,.inl ⟨rfl,rfl⟩,Keep.refl⟩ ?_
  rintro u _ h ⟨i,hi,rfl,hb,kh⟩ kk hkk
  have el:zAC .no .lss (.int .i64 (i:Nat)) (.int .i64 32)=some (.bool (decide (i<32))):=by
   rw[zAH];simp only[zC3];congr 2;rw[decide_eq_decide];omega
  rw[el,zAa,zAl]
  by_cases hlt:i<32
  rotate_left
  ·rw[if_neg (by simpa using hlt)]
   rw[zAs (by omega)]at hb
   exact hk _ _ _ ⟨hb,k1.trans kh⟩
  rw[if_pos (by simpa using hlt)]
  have hg:l[i]? = some (l[i]'(by omega)):=zAj (by omega)
  have hix:ixV 32 false 1 (.agg (zBB l).toArray) (.int .i64 (i:Nat))=some (.int .u8 ((l[i]'(by omega)).toNat:Nat)):=by
   simp only[ixV]
   rw[if_pos ⟨by omega,by omega⟩]
   simp only[zAb,if_false,zCt,zCN]
   rw[zDf]
   unfold zBB
   rw[zAp,hg];rfl
  have htk:((l.take (i+1)).map hx2).flatten=((l.take i).map hx2).flatten++hx2 (l[i]'(by omega)):=by
   rw[zAI,hg,zAE,zBp]
   simp only[Option.toList_some,zAW,zCm,zA7,zCj,zAN]
  generalize l[i]'(by omega)=c at *
  have hc:=c.toNat_lt
  have h1':=zAgW (n:=c.toNat / 16) (by omega)
  have h2':=zAgW (n:=c.toNat % 16) (by omega)
  rw[hix,zAa,u8s,zAa,zLu h1',zAa,u8a,zAa,zLu h2',zAa,zAlW,zCh]
  generalize hH5:h.push (.cells #[.int .u8 ((hxD (c.toNat / 16)).toNat:Nat),.int .u8 ((hxD (c.toNat % 16)).toNat:Nat)] zCg (0,0))=h5
  have k5:Keep zAM h h5:=by rw[<- hH5];exact Keep.push
  have s5:h5.size=h.size+1:=by rw[<- hH5];simp
  have hbs:Bs h5 (.slice (some ⟨h.size,0,none⟩) 2 2) (hx2 c):=by
   rw[<- hH5];exact Bs.mk zCa rfl (by simp) rfl
  have gh:=kh.1
  have hl3:(l.take i).length<=32:=by rw[zAZ];omega
  refine(hb.keep k5 λ_ _=>id).app hbs (by rw[zAdJ];show _+2<=_;omega) (by show h1.size<=h5.size;omega) λv2 h6 hv2 k6=>?_
  rw[zBV (by omega),zAa]
  exact hkk _ _ _ ⟨i+1,by omega,rfl,by rw[htk];exact hv2,(kh.trans k5).fresh k6 λb hb=>hb⟩ (by show 32-(i+1)<32-i;omega)
 ·rintro u _ h ⟨hb,kh⟩
  rw[hb.sl.b2s,zAa]
  exact⟨rfl,kh⟩
theorem zAdK {Pd:zA2}{H:zAw}{v:Value}{m:List UInt8}(hx:Sl Pd H v m)(hT:zTa H)(hPd:∀ b,Pd b->b<H.size)(hl:m.length<=1099511627776) :
  zAz prg zRY [v] H λu H'=>u=bv (zAch (0::m))/\Keep zAM H H':=by
 apply zR7
 unfold zTO
 obtain⟨va,vc,hve,_⟩:=hx.sl
 simp only[zZi,zBa,hve,zAhZ,zCh]
 rw[<- hve]
 generalize hH2:H.push (.cells (zBB zPF).toArray zCf (0,0))=H2
 have k2:Keep zAM H H2:=by rw[<- hH2];exact Keep.push
 have hs2:H2.size=H.size+1:=by rw[<- hH2];simp
 have hr2:H2[H.size]? = some (.cells (zBB zPF).toArray zCf (0,0)):=by rw[<- hH2];exact zCa
 generalize hH3:H2.push (.cells #[v] zEr (0,0))=H3
 have k3:Keep zAM H2 H3:=by rw[<- hH3];exact Keep.push
 have hs3:H3.size=H2.size+1:=by rw[<- hH3];simp
 have hv3:H3[H2.size]? = some (.cells #[v] zEr (0,0)):=by rw[<- hH3];exact zCa
 have kk:Keep zAM H H3:=k2.trans k3
 have sv:Sl Pd H3 v m:=hx.keep kk λ_ _=>id
 have hvv:SlE 1 (· = H2.size) H3 (.slice (some ⟨H2.size,0,none⟩) 1 1) (zGD ([(v,m)].map (·.1))):=by
  refine⟨⟨_,1,rfl,zAh _,.inr ⟨H2.size,0,rfl,rfl,?_⟩⟩,zL3,zU2 (P:=Pd) (H:=H3) ?_⟩
  ·rw[zH1];exact Pt.of hv3
  ·intro x hx;simp at hx;subst hx;exact sv
 refine zAJ (zWT (Pd:=Pd) hvv ?_ (hT.keep kk λ_ h=>h.elim) (λb hb=>by omega) (λb hb=>?_) ?_ (by simp)) ?_
 ·intro x hx;simp at hx;subst hx;exact sv
 ·have:=hPd b hb;omega
 ·simp[zJV];omega
 rintro _ H4 ⟨rfl,k4⟩
 have hr4:=(k3.trans k4).at hr2 id
 have e6:(bO 0::zJV [(v,m)])=0::m:=by simp[zJV];rfl
 rw[zRe hr4 (n:=32) rfl zGY,zAV,zPq (zBm hr4) zGY,zAa]
 refine⟨by rw[e6],?_⟩
 have:=(kk.trans k4)
 refine⟨by simp;exact this.1,λi hi _=>?_⟩
 rw[zAD,if_neg (by omega),this.2 i hi id]
def zRI:List UInt8:=[102,105,108,101]
def zUo (f:zHl):List UInt8:=zT4 [zRI,f.name,zWk f.size,(f.sum.map hx2).flatten]
def zAi6 (m:Man):List UInt8:=zAe7 m++(m.files.map zUo).flatten
theorem zAkx {a b c d:List UInt8}:zGf prg zBd 4 [(0,str a),(1,str b),(2,str c),(3,str d)]=some ([a,b,c,d].map str).toArray:=by kernel_rfl
theorem zYS:∀ {k n:Nat},1<=k->n<10 ^ k->(zHc n).length<=k
 | 0,_,h,_=>by omega
 | 1,n,_,h=>by rw[zHc,if_pos (by omega)];simp
 | k+2,n,_,h=>by
  rw[zHc]
  split
  ·simp
  ·have h1:n / 10<10 ^ (k+1):=by
    rw[Nat.div_lt_iff_lt_mul (by omega)]
    rw[Nat.pow_succ]at h;exact h
   have:=zYS (k:=k+1) (n:=n / 10) (by omega) h1
   rw[zAq,zBe];omega
theorem zAdL {n:Int}(h1 : -9223372036854775808<=n)(h:n<=1048576):(zWk n).length<=100:=by
 unfold zWk
 split
 ·have:=zYS (k:=19) (n:=(-n).toNat) (by omega) (by omega)
  rw[zAQ];omega
 ·have:=zYS (k:=19) (n:=n.toNat) (by omega) (by omega);omega
theorem zUp {f:zHl}(w:f.wf)(h1:f.name.length<=64)(h2:f.size<=1048576):(zUo f).length<=300:=by
 have:=zRx (l:=[zRI,f.name,zWk f.size,(f.sum.map hx2).flatten])
 have h3:=zAdL w.size.1 h2
 have h4:=zAdJ (d:=f.sum)
 have h5:=w.sum
 unfold zUo
 simp[total,zRI]at this ⊢
 have h6:(List.map (List.length ∘ hx2) f.sum).sum=2*f.sum.length:=by
  rw[<- h4];simp[List.length_flatten]
 omega
theorem zZ9 {m:Man}(w:∀ f∈m.files,f.wf)(f3:∀ f∈m.files,f.name.length<=64)(f4:∀ f∈m.files,f.size<=1048576)(f1:m.files.length<=64)(hms:(zAe7 m).length<=1099511627):(zAi6 m).length<=1099611627:=by
 have:=zPI (f:=zUo) (n:=300) (l:=m.files) λx hx=>zUp (w x hx) (f3 x hx) (f4 x hx)
 unfold zAi6
 rw[zAq];omega
theorem zAdM {P:zA2}{p:Nat}{H:zAw}{v:Value}{l:List zHl}{acc:List UInt8}{k:zAn}
  (hv:SlE 34 P H v (l.map zEg)) (hP:∀ b,P b->b<p) (hb:BAt (p < ·) p H acc) (hp:p<H.size) (hw:∀ d∈l,d.wf) (hok:∀ d∈l,d.name.length<=64/\d.size<=1048576) (hl:l.length<=64) (hacc:acc.length<=1099511627)
  (hT:zWi H) (hN:NG<=p)
  (hk:∀ u h,BAt (p < ·) p h (acc++(l.map zUo).flatten)->Keep (p <= ·) H h->k u h) :
  L1 (λk30=>λt57_2 h31 =>
    Mpu (zAC .no .lss t57_2 (.int .i64 (l.length:Nat))) λt58 =>
    Mcd t58 (
     Mpu (ixS 34 v t57_2) λt59 =>
     Mpu (ldN 34 h31 t59) λt60 =>
     zDA h31 zBn (zBE prg zBn) λt10 h32 =>
     Mwr (stN 34 h32 t10 t60) λh33 =>
     Mpu (fld 0 t10) λt61 =>
     Mpu (ld1 h33 t61) λt62 =>
     Mpu (fld 33 t10) λt63 =>
     Mpu (ld1 h33 t63) λt64 =>
     Mpu (fld 1 t10) λt66 =>
     Mpu (ldN 32 h33 t66) λt67 =>
     zA3 prg zFs [t64] h33 λt65 h34 =>
     Mre [(ldN 32 h34 t66,t67),(ld1 h34 t61,t62)] (
     zA3 prg zJB [t67] h34 λt68 h35 =>
     Mre [(ld1 h35 t61,t62)] (
     zD1 h35 zBd 4 (zGf prg zBd 4 [(0,str zRI),(1,t62),(2,t65),(3,t68)]) λt69 h36 =>
     zA3 prg zES [t69] h36 λt70 h37 =>
     zA3 prg zBW [Ptr p 0,t70] h37 λ_ h38 =>
     Mpu (zAC .no .add t57_2 (.int .i64 1)) λt72 =>
     k30 t72 h38))) (
     k t57_2 h31)) ((.int .i64 0)) H:=by
 refine zKa (λu h=>∃ i:Nat,i<=l.length/\u = .int .i64 (i:Nat)/\BAt (p < ·) p h (acc++((l.take i).map zUo).flatten)/\Keep (p <= ·) H h) (λu _=>match u with | .int _ t=>l.length-t.toNat|_=>0) ⟨0,zAA _,rfl,by simpa using hb,Keep.refl⟩ ?_
 rintro _ h ⟨i,hi,rfl,hbi,kh⟩ k2 hk2
 rw[zOC,zAa,zAl]
 by_cases hlt:i<l.length
 rotate_left
 ·rw[if_neg (by simpa using hlt)]
  rw[zAs (by omega)]at hbi
  exact hk _ _ hbi kh
 rw[if_pos (by simpa using hlt)]
 have hg:l[i]? = some l[i]:=zAj hlt
 obtain⟨b,o,hix,hpt,_⟩:=(hv.keep kh λb hb=>by have:=hP b hb;omega).at (i:=i) (x:=zEg l[i]) (by rw[zAp,hg];rfl)
 have hwd:=hw _ (zAG hlt)
 have hnd:=hok _ (zAG hlt)
 have htk:((l.take (i+1)).map zUo).flatten=((l.take i).map zUo).flatten++zUo l[i]:=by
  rw[zAI,hg,zAE,zBp]
  simp only[Option.toList_some,zAW,zCm,zA7,zCj,zAN]
 generalize l[i]=f at *
 rw[hix .i64,zAa,hpt.agg (zDN hwd),zAa]
 simp only[zAcC,zBa,zBf,zAg,zAu,zAa]
 generalize hH6:h.push (.cells (zEg zVZ).toArray zBn (0,0))=h6
 have k6:Keep zAM h h6:=by rw[<- hH6];exact Keep.push
 have a6:At h6 h.size (zEg zVZ):=by rw[<- hH6];exact At.push
 obtain⟨h7,st7,a7,k7⟩:=a6.st (n:=34) (ds:=zEg f) (zDN zV0) (zDN hwd) zMQ
 have g1:=kh.1
 have g6:=k6.1
 have k17:Keep zAM h h7:=k6.fresh k7 λb hb=>by omega
 have kH7:Keep (p <= ·) H h7:=kh.trans (k17.mono λ_ _ h=>h.elim)
 have d0:∀ h',Keep zAM h7 h'->ld1 h' (Ptr h.size 0)=some (str f.name):=λh' k=>(a7.keep k id).ld rfl
 have d1:∀ h',Keep zAM h7 h'->ldN 32 h' (Ptr h.size 1)=some (bv f.sum):=λh' k=>by
  have:=zAcD (a7.keep k id).pt hwd
  rwa [zAg]at this
 have d33:=zYt a7.pt hwd
 rw[zAg]at d33
 rw[st7,zAV,d0 _ Keep.refl,zAa,d33,zAa,d1 _ Keep.refl,zAa]
 refine zAJ (zAh8 hwd.size.1 hwd.size.2 (hT.keep kH7 λb hb=>by omega)) ?_
 rintro _ h8 ⟨rfl,k8⟩
 rw[d1 _ k8,d0 _ k8,zBq,zBq,zA9]
 refine zAJ (zAa4 hwd.sum) ?_
 rintro _ h8' ⟨rfl,k8'⟩
 rw[d0 _ (k8.trans k8'),zBq,zA9,zAkx,zCh]
 generalize hH9:h8'.push (.cells ([zRI,f.name,zWk f.size,(f.sum.map hx2).flatten].map str).toArray zBd (0,0))=h9
 have k9:Keep zAM h8' h9:=by rw[<- hH9];exact Keep.push
 have a9:At h9 h8'.size ([zRI,f.name,zWk f.size,(f.sum.map hx2).flatten].map str):=by rw[<- hH9];exact At.push
 have hdl:(zUo f).length<=300:=zUp hwd hnd.1 hnd.2
 have hil:=zAdL hwd.size.1 hnd.2
 have hxl:=zAdJ (d:=f.sum)
 have hsl:=hwd.sum
 refine zAJ (zAcA a9 rfl (by simp) (by
  have e:total [zRI,f.name,zWk f.size,(f.sum.map hx2).flatten]=4+(f.name.length+((zWk f.size).length+((f.sum.map hx2).flatten).length)):=by
   generalize (f.sum.map hx2).flatten=z
   unfold total
   simp[zRI]
   omega
  rw[e];omega)) ?_
 rintro _ h10 ⟨rfl,k10⟩
 have kk:Keep zAM h h10:=k17.trans ((k8.trans k8').trans (k9.trans k10))
 have hb10:=hbi.keep kk λ_ _=>id
 have hfl:=zPI (f:=zUo) (n:=300) (l:=l.take i) λx hx=>zUp (hw x (zBs hx)) (hok x (zBs hx)).1 (hok x (zBs hx)).2
 have hti:(l.take i).length<=64:=by rw[zAZ];omega
 have hsz:=kk.1
 refine zAJ (zH5 hb10 (by
  rw[zAq]
  have:(zT4 [zRI,f.name,zWk f.size,(f.sum.map hx2).flatten]).length<=300:=hdl
  omega) λb hb=>by show p<b;omega) ?_
 rintro _ h11 ⟨rfl,hb11,k11⟩
 rw[zBV (by omega),zAa]
 refine hk2 _ _ ⟨i+1,by omega,rfl,?_,?_⟩ (by show l.length-(i+1)<l.length-i;omega)
 ·rw[htk,<- zBc];exact hb11
 ·exact(kh.trans (kk.mono λ_ _ h=>h.elim)).trans (k11.mono λb _ hb=>by rcases hb with hb|hb<;>omega)
theorem zAdN {P:zA2}{H:zAw}{m:Man}{vd vc vf:Value}(hv:zMf P H m vd vc vf)(hP:∀ b,P b->b<H.size)(hd:m.deps.length<=1048576)(hc:m.conf.length<=1048576)(hO:zQR H)(hT:zWi H) :
  zAz prg zGs [.agg (zGI m vd vc vf).toArray] H λu H'=>u=(if zFO m=true then .tuple #[str (zAi6 m),.int .i64 0] else .tuple #[str [],.int .i64 10])/\Keep zAM H H':=by
 apply zKM
 unfold zIH
 simp only[zB1,zBa]
 generalize hH1:H.push (.cells (zGI m vd vc vf).toArray zAi (0,0))=H1
 have k1:Keep zAM H H1:=by rw[<- hH1];exact Keep.push
 have a1:At H1 H.size (zGI m vd vc vf):=by rw[<- hH1];exact At.push
 have w:=hv.wf
 rw[zT3 a1 w,zAa]
 refine zAJ (zTe (hv.keep k1 λ_ _=>id) (by omega) (by omega) (hO.keep k1 λ_ h=>h.elim)) ?_
 rintro _ h2 ⟨rfl,k2⟩
 have a2:=a1.keep k2 id
 have k12:=k1.trans k2
 rw[zA8,zAa,zAl]
 cases hokG:zFO m
 ·simp only[zA8,zAe,zAd,zAO,zAT,zAv,zAl,zAa,if_true,if_false,zAb,zAc,decide_true,decide_false,reduceCtorEq,zBQ,zEH,zEI,zEE,zEF,zEG,zBq,zA9]
  exact⟨by trivial,k12⟩
 rw[if_neg (by decide)]
 simp only[zWU,zBa]
 generalize hH3:h2.push (.cells #[.pointer none,.slice none 0 0] zBU (0,0))=h3
 have k3:Keep zAM h2 h3:=by rw[<- hH3];exact Keep.push
 generalize hp:h2.size=p at *
 have hp1:h3[p]? = some (.cells #[.pointer none,.slice none 0 0] zBU (0,0)):=by rw[<- hH3,<- hp];exact zCa
 have hB:BAt (p < ·) p h3 []:=⟨zCU _,_,_,hp1,.inl rfl,.inl ⟨rfl,rfl⟩⟩
 have s3:h3.size=p+1:=by rw[<- hH3];simp[hp]
 have a3:=a2.keep k3 id
 have k13:=k12.trans k3
 have g1:=k1.1
 have g12:=k12.1
 have hN:NG<=p:=by have:=hT.sz;omega
 have hq:H.size<p:=by have:=a2.lt;omega
 rw[zBf,zAa,zAu,zDd a3,zAa,zBf,zAa,zAg,zI7 a3 w,zAa]
 refine zAJ (zPG w.ver (hT.keep k13 λ_ h=>h.elim)) ?_
 rintro _ h4 ⟨rfl,k4⟩
 have a4:=a3.keep k4 id
 refine⟨zDd a4,?_⟩
 have hpk:(Value.string ⟨#[112,97,99,107,97,103,101]⟩)=str zIS:=rfl
 simp only[hpk,zAe8,zCh]
 generalize hH5:h4.push (.cells ([zIS,m.name,zEf m.ver].map str).toArray zBd (0,0))=h5
 have k5:Keep zAM h4 h5:=by rw[<- hH5];exact Keep.push
 have b5:At h5 h4.size ([zIS,m.name,zEf m.ver].map str):=by rw[<- hH5];exact At.push
 have hok':=(show zYr m=true by have:=hokG;unfold zFO at this;rw[zAk]at this;exact this.1)
 unfold zYr at hok'
 simp only[zAk]at hok'
 obtain⟨⟨⟨ok1,ok2⟩,ok3⟩,ok4⟩:=hok'
 have l1:=zP3 ok1
 have l2:=zHV (v:=m.ver) w.ver.p3
 refine zAJ (zAcA b5 rfl (by simp) (by simp[total,zIS];omega)) ?_
 rintro _ h6 ⟨rfl,k6⟩
 have k36:=k4.trans (k5.trans k6)
 have g3:=k36.1
 have hB6:=hB.keep k36 λ_ _=>id
 have hl0:(zT4 [zIS,m.name,zEf m.ver]).length<=100:=by
  have:=zRx (l:=[zIS,m.name,zEf m.ver])
  simp[total,zIS]at this ⊢;omega
 refine zAJ (zH5 hB6 (by simp;omega) λb hb=>by show p<b;omega) ?_
 rintro _ h7 ⟨rfl,hB7,k7⟩
 rw[zA0]at hB7
 have k17:Keep (p <= ·) H h7:=((k13.trans k36).mono λ_ _ h=>h.elim).trans (k7.mono λb _ hb=>by rcases hb with hb|hb<;>omega)
 have k37:Keep (p <= ·) h3 h7:=(k36.mono λ_ _ h=>h.elim).trans (k7.mono λb _ hb=>by rcases hb with hb|hb<;>omega)
 have a7:=a3.keep k37 (show ¬ p<=H.size by omega)
 have hPp:∀ b,P b->b<p:=λb hb=>by have:=hP b hb;omega
 have hPn:∀ b,P b->¬ p<=b:=λb hb=>by have:=hPp b hb;omega
 have hv7:=hv.keep k17 hPn
 obtain⟨g5,g6,g7⟩:=zHm a7 w
 have hdw:∀ l:List Dep,zOd m.name l=true->∀ d∈l,zJi d.name=true:=λl hl d hd=>by
  unfold zOd at hl
  simp only[zAk,zAy]at hl
  have:=hl.1.1 d hd
  unfold zSh at this
  simp only[zAk]at this
  exact this.1.1
 have g77:=k37.1
 have lend:=hv7.d.len
 rw[zAf]at lend
 refine zNW (λ_ h=>BAt (p < ·) p h (zT4 [zIS,m.name,zEf m.ver]++(m.deps.map (zYs zW5)).flatten)/\Keep (p <= ·) h7 h) (λk hk=>?_) ?_
 ·rw[zBf,zAa,zAg,g5,zAa,lend,zAa]
  exact zW7 (w:=zW5) hv7.d hPp hB7 (by omega) w.deps (hdw _ ok3) hd (by decide) (by omega) (hO.keep k17 λb hb=>by omega) (hT.keep k17 λb hb=>by omega) hN λu h hb k=>hk u h ⟨hb,k⟩
 rintro _ h8 ⟨hB8,k8⟩
 have k18:=k17.trans k8
 have a8:=a7.keep k8 (show ¬ p<=H.size by omega)
 have hv8:=hv.keep k18 hPn
 obtain⟨g5,g6,g7⟩:=zHm a8 w
 have lenc:=hv8.c.len
 rw[zAf]at lenc
 have hfl:=zPI (f:=zYs zW5) (n:=100) (l:=m.deps) λx hx=>zP4 (by decide) (w.deps x hx) (hdw _ ok3 x hx)
 have hd':m.deps.length*100<=1048576*100:=zBo _ hd
 have g8:=k8.1
 refine zNW (λ_ h=>BAt (p < ·) p h (zAe7 m)/\Keep (p <= ·) h8 h) (λk hk=>?_) ?_
 ·rw[zBf,zAa,zAg,g6,zAa,lenc,zAa]
  exact zW7 (w:=zTc) hv8.c hPp hB8 (by omega) w.conf (hdw _ ok4) hc (by decide) (by rw[zAq];omega) (hO.keep k18 λb hb=>by omega) (hT.keep k18 λb hb=>by omega) hN λu h hb k=>hk u h ⟨by unfold zAe7;rw[<- zBc];exact hb,k⟩
 rintro _ h9 ⟨hB9,k9⟩
 have k19:=k18.trans k9
 have a9:=a8.keep k9 (show ¬ p<=H.size by omega)
 have hv9:=hv.keep k19 hPn
 obtain⟨g5,g6,g7⟩:=zHm a9 w
 have lenf:=hv9.f.len
 rw[zAf]at lenf
 obtain⟨f1,f2,f3⟩:=zMT hokG
 have f4:=zUj hokG
 have hfl2:=zPI (f:=zYs zTc) (n:=100) (l:=m.conf) λx hx=>zP4 (by decide) (w.conf x hx) (hdw _ ok4 x hx)
 have hc':m.conf.length*100<=1048576*100:=zBo _ hc
 have hms:(zAe7 m).length<=1099511627:=by unfold zAe7;rw[zAq,zAq];omega
 refine zNW (λ_ h=>BAt (p < ·) p h (zAi6 m)/\Keep (p <= ·) h9 h) (λk hk=>?_) ?_
 ·rw[zBf,zAa,zAg,g7,zAa,lenf,zAa]
  exact zAdM hv9.f hPp hB9 (by have:=k9.1;omega) w.files (λf hf=>⟨f3 f hf,f4 f hf⟩) f1 hms (hT.keep k19 λb hb=>by omega) hN λu h hb k=>hk u h ⟨hb,k⟩
 rintro _ h9' ⟨hB9',k9'⟩
 have hmg:=zZ9 w.files f3 f4 f1 hms
 refine zAJ (zWV hB9' (by omega)) ?_
 rintro _ h10 ⟨rfl,k10⟩
 refine⟨by rw[if_pos trivial],?_⟩
 have kk:Keep (p <= ·) H h10:=(k19.trans k9').trans (k10.mono λb _ hb=>by omega)
 exact⟨kk.1,λi hi _=>kk.2 i hi (by omega)⟩
def zAa5 (m:Man):List UInt8:=if zFO m=true then zAi6 m else []
theorem zXB {m:Man}(w:∀ f∈m.files,f.wf)(hms:zFO m=true->(zAe7 m).length<=1099511627):(zAa5 m).length<=1099611627:=by
 unfold zAa5
 cases h:zFO m
 ·simp
 ·rw[if_pos rfl]
  obtain⟨f1,f2,f3⟩:=zMT h
  exact zZ9 w f3 (zUj h) f1 (hms h)
theorem zAaa {m:Man}(w:m.wf)(hok:zFO m=true)(hd:m.deps.length<=1048576)(hc:m.conf.length<=1048576):(zAe7 m).length<=1099511627:=by
 have hok':=(show zYr m=true by have:=hok;unfold zFO at this;rw[zAk]at this;exact this.1)
 unfold zYr at hok'
 simp only[zAk]at hok'
 obtain⟨⟨⟨ok1,ok2⟩,ok3⟩,ok4⟩:=hok'
 have l1:=zP3 ok1
 have l2:=zHV (v:=m.ver) w.ver.p3
 have hl0:(zT4 [zIS,m.name,zEf m.ver]).length<=100:=by
  have:=zRx (l:=[zIS,m.name,zEf m.ver])
  simp[total,zIS]at this ⊢;omega
 have hdw:∀ l:List Dep,zOd m.name l=true->∀ d∈l,zJi d.name=true:=λl hl d hd=>by
  unfold zOd at hl
  simp only[zAk,zAy]at hl
  have:=hl.1.1 d hd
  unfold zSh at this
  simp only[zAk]at this
  exact this.1.1
 have h1:=zPI (f:=zYs zW5) (n:=100) (l:=m.deps) λx hx=>zP4 (by decide) (w.deps x hx) (hdw _ ok3 x hx)
 have h2:=zPI (f:=zYs zTc) (n:=100) (l:=m.conf) λx hx=>zP4 (by decide) (w.conf x hx) (hdw _ ok4 x hx)
 unfold zAe7
 rw[zAq,zAq];omega
theorem zAdO {P:zA2}{H:zAw}{m:Man}{vd vc vf:Value}(hv:zMf P H m vd vc vf)(hP:∀ b,P b->b<H.size)(hd:m.deps.length<=1048576)(hc:m.conf.length<=1048576)(hO:zQR H)(hT:zWi H) :
  zAz prg zGq [.agg (zGI m vd vc vf).toArray] H λu H'=>Sl (λb=>H.size<=b/\b<H'.size) H' u (zAa5 m)/\Keep zAM H H':=by
 apply zKJ
 unfold zIE
 simp only[zB1,zBa]
 generalize hH1:H.push (.cells (zGI m vd vc vf).toArray zAi (0,0))=H1
 have k1:Keep zAM H H1:=by rw[<- hH1];exact Keep.push
 have a1:At H1 H.size (zGI m vd vc vf):=by rw[<- hH1];exact At.push
 have w:=hv.wf
 have hln:=zXB w.files λh=>zAaa w h hd hc
 rw[zT3 a1 w,zAa]
 refine zAJ (zAdN (hv.keep k1 λ_ _=>id) (λb hb=>zAS (hP b hb) k1.1) hd hc (hO.keep k1 λ_ h=>h.elim) (hT.keep k1 λ_ h=>h.elim)) ?_
 rintro _ h2 ⟨rfl,k2⟩
 have k02:=k1.trans k2
 have g02:=k02.1
 obtain⟨e,he⟩:∃ e,(if zFO m=true then Value.tuple #[str (zAi6 m),.int .i64 0] else .tuple #[str [],.int .i64 10]) = .tuple #[str (zAa5 m),e]:=by
  unfold zAa5
  cases zFO m
  ·exact⟨_,rfl⟩
  ·exact⟨_,rfl⟩
 have x0:∀ a b:Value,zFg 0 (.tuple #[a,b])=some a:=λ_ _=>rfl
 have x1:∀ a b:Value,zFg 1 (.tuple #[a,b])=some b:=λ_ _=>rfl
 rw[he,x0,zAa,x1,zAa]
 refine zAhM (by omega) λv h3 hs k3=>?_
 have hk:=k02.trans k3
 refine⟨⟨hs.bs,hs.sl,λb hb=>?_⟩,hk⟩
 have e2:=hs.own b hb
 subst e2
 refine⟨g02,?_⟩
 rcases hs.cases with ⟨a,c,rfl,_⟩|⟨b',o,c,cs,T,f,rfl,_,_,hb',_⟩
 ·cases a<;>simp[blk]at hb
 ·have:=lt_of hb'
  obtain⟨rfl,_⟩:=zHP hb
  exact this
structure zUq (P:zA2)(H:zAw)(v:Value)(mv:List MV):Prop where
 h:SlE 8 P H v (mv.map mvC)
 m:∀ x∈mv,zMf P H x.1 x.2.1 x.2.2.1 x.2.2.2
 hl:mv.length<=9223372036854775807
theorem zUq.keep {P S:zA2}{H H':zAw}{v:Value}{mv:List MV}(h:zUq P H v mv)(k:Keep S H H')(hs:∀ b,P b->¬ S b):zUq P H' v mv:=⟨h.h.keep k hs,λx hx=>(h.m x hx).keep k hs,h.hl⟩
def zRJ (x:MV):Prop:=x.1.name.length<=50/\x.1.ver.pre.length<=50/\x.1.deps.length<=8/\x.1.conf.length<=8/\x.1.files.length<=8
def zSU (mv:List MV):Prop:=∀ x∈mv,zRJ x
theorem zUq.to {P:zA2}{H:zAw}{v:Value}{mv:List MV}(h:zUq P H v mv)(hs:zSU mv):zNM P H v mv:=⟨h.h,h.m,λx hx=>by have:=hs x hx;unfold zRJ at this;omega⟩
theorem zUq.len {P:zA2}{H:zAw}{v:Value}{mv:List MV}(h:zUq P H v mv):zDD v=some (.int .i64 (mv.length:Nat)):=by have:=h.h.len;rwa [zAf]at this
theorem zLl {α β:Type}{f:α->β}{l:List α}{i:Nat}{x:α}(h:l[i]? = some x):(l.map f)[i]? = some (f x):=by rw[zAp,h];rfl
theorem zAdP {n m:Nat}:zAC .no .gtr (.int .i64 (n:Nat)) (.int .i64 ((m:Nat):Int))=some (.bool (decide (n > m))):=zAbr
theorem zS1 {α:Type}{l:List α}{i:Nat}(h:i<l.length):∃ x,l[i]? = some x/\x∈l:=⟨l[i],zAj h,zAG h⟩
theorem zAfK {α:Type}{l:List α}{p:α->Prop}(h:∀ x∈l.take l.length,p x):∀ x∈l,p x:=by rwa [zBN]at h
theorem zAdQ {α:Type}{l:List α}{i:Nat}{x:α}{p:α->Prop}(hx:l[i]? = some x)(h:∀ y∈l.take i,p y)(hp:p x):∀ y∈l.take (i+1),p y:=by
 intro y hy
 rw[zAI,hx]at hy
 rcases zAt.1 hy with hy|hy
 ·exact h y hy
 ·obtain rfl:y=x:=by simpa using hy
  exact hp
theorem zXC {P:zA2}{H:zAw}{v:Value}{mv:List MV}{most:Nat}(hp:zUq P H v mv) :
  zAz prg zD3 [v,.int .i64 (most:Nat)] H λu H'=>(∃ b,u = .bool b/\(b=true->zSU mv/\mv.length<=most))/\Keep No H H':=by
 apply zL6
 unfold zKd
 refine range_i hp.len (λi h=>(∀ x∈mv.take i,zRJ x)/\Keep No H h) (λh=>zSU mv/\Keep No H h) ⟨by simp,Keep.refl⟩ (λh hI=>⟨zAfK hI.1,hI.2⟩) ?_ ?_
 rotate_left
 ·rintro _ h ⟨hs,k⟩
  rw[hp.len,zAa,zYD,zAa]
  exact⟨⟨_,rfl,λe=>⟨hs,of_decide_eq_true e⟩⟩,k⟩
 rintro i h hlt ⟨hall,kh⟩ k1 k3 _ hk3
 obtain⟨x,hx,hm⟩:=zS1 hlt
 have hmx:=hp.m x hm
 have w:=hmx.wf
 refine zAm0 (λh'=>zRJ x/\Keep No h h') (λk5 hk5=>?_) ?_
 rotate_left
 ·rintro _ _ _ _ _ h' ⟨hs,k'⟩
  exact zOX hlt hp.hl (hk3 _ ⟨zAdQ hx hall hs,kh.trans k'⟩)
 refine zAiu (hp.keep kh λ_ _=>id).h (zLl hx) zMS (zBK zOD) λh8 a8 k8=>?_
 have bad:(∃ b,Value.bool false = .bool b/\(b=true->zSU mv/\mv.length<=most))/\Keep No H h8:=⟨⟨_,rfl,λe=>by cases e⟩,kh.trans k8⟩
 have a8':At h8 h.size (zGI x.1 x.2.1 x.2.2.1 x.2.2.2):=a8
 obtain⟨g5,g6,g7⟩:=zHm a8' w
 have l1:=(hmx.d.keep (kh.trans k8) λ_ _=>id).len
 have l2:=(hmx.c.keep (kh.trans k8) λ_ _=>id).len
 have hf:=(hmx.keep (kh.trans k8) λ_ _=>id).f
 have l3:=hf.len
 rw[zAf]at l1 l2 l3
 have b8:∀ n:Nat,zAC .no .gtr (.int .i64 (n:Nat)) (.int .i64 8)=some (.bool (decide (n > 8))):=λn=>zAdP (m:=8)
 have b50:∀ n:Nat,zAC .no .gtr (.int .i64 (n:Nat)) (.int .i64 50)=some (.bool (decide (n > 50))):=λn=>zAdP (m:=50)
 simp only[zBf,zAg,zAu,zAa,zDd a8',zAh2 a8' w,g5,g6,g7,l1,l2,l3,zE5,b8,b50]
 refine zRQ (λq=>zRQ (λ_=>zRQ (λ_=>zRQ (λ_=>zNN rfl bad) nofun) nofun) nofun) λq1=>?_
 refine zRQ (λq=>zRQ (λ_=>zRQ (λ_=>zNN rfl bad) nofun) nofun) λq2=>?_
 refine zCk g5 (zCk l1 (zCk (b8 _) ?_))
 refine zRQ (λq=>zRQ (λ_=>zNN rfl bad) nofun) λq3=>?_
 refine zCk g6 (zCk l2 (zCk (b8 _) ?_))
 refine zRQ (λq=>zNN rfl bad) λq4=>?_
 refine zCk g7 (zCk l3 (zCk (b8 _) (zUI (λ_=>bad) λq5=>?_)))
 have hs1:zRJ x:=by
  rw[decide_eq_false_iff_not]at q1 q2 q3 q4 q5
  unfold zRJ;omega
 refine zCk g7 (zCk l3 (zAkl (λ_ h'=>Keep No h8 h') Keep.refl (λh' k'=>hk5 _ _ _ _ _ _ ⟨hs1,k8.trans k'⟩) ?_))
 intro j h' hj k' k17 hk17
 obtain⟨f,hfx,hfm⟩:=zS1 hj
 have wf:=w.files f hfm
 refine zAiu (hf.keep k' λ_ _=>id) (zLl hfx) zAcC (zDN zV0) λh9 a9 k9=>?_
 have k09:=(kh.trans k8).trans (k'.trans k9)
 have bad:(∃ b,Value.bool false = .bool b/\(b=true->zSU mv/\mv.length<=most))/\Keep No H h9:=⟨⟨_,rfl,λe=>by cases e⟩,k09⟩
 have f1:ld1 h9 (Ptr h'.size 0)=some (str f.name):=zAh0 a9.pt
 have f2:ld1 h9 (Ptr h'.size 33)=some (.int .i64 f.size):=by have:=zYt a9.pt wf;rwa [zAg]at this
 have e80:zAC .no .gtr (.int .i64 (f.name.length:Nat)) (.int .i64 80)=some (.bool (decide (f.name.length > 80))):=zAdP (m:=80)
 have e3:zAC .no .gtr (.int .i64 f.size) (.int .i64 300)=some (.bool (decide (f.size > 300))):=by rw[zAH];rfl
 simp only[zBf,zAg,zAu,zAa,f1,zE5,e80]
 refine zRQ (λq=>zNN rfl bad) λq1=>zCk f2 (zCk e3 (zUI (λ_=>bad) λq2=>?_))
 exact zOX hj (by have:=hs1.2.2.2.2;omega) (hk17 _ (k'.trans k9))
end Go.Proofs.YticdfkoncnnmmaaGreatDoor
