import Derived.Test.YticdfkoncnnmmaaGreatDoorHE
import Derived.Test.YticdfkoncnnmmaaGreatDoorGO
import Derived.Test.YticdfkoncnnmmaaGreatDoorGI
import Derived.Test.YticdfkoncnnmmaaGreatDoorH9
import Derived.Test.YticdfkoncnnmmaaGreatDoorG6
import Derived.Test.YticdfkoncnnmmaaGreatDoorG1
import Derived.Test.YticdfkoncnnmmaaGreatDoorHB
set_option linter.unusedSimpArgs false
set_option linter.unusedVariables false
set_option maxRecDepth 100000
namespace Go.Proofs.YticdfkoncnnmmaaGreatDoor
open Go.X Go.X.Diff Go.MapKept
def zX5 (nm:List UInt8)(ds:List Dep):Man:=⟨nm,⟨[1,0,0],[]⟩,ds,[],[]⟩
def zNv (n:List UInt8):Dep:=⟨n,⟨[42],zEY⟩⟩
theorem zAaC {n:List UInt8}(h:n.length<=9223372036854775807):(zNv n).wf:=⟨⟨zG5,by simp[zNv]⟩,h⟩
theorem zWC {nm:List UInt8}{ds:List (List UInt8)}(h:nm.length<=9223372036854775807)(hd:∀ d∈ds,d.length<=9223372036854775807):(zX5 nm (ds.map zNv)).wf :=
 ⟨h,⟨rfl,by simp[zX5]⟩,λd h=>by
  obtain⟨n,hn,rfl⟩:=zAo.1 h
  exact zAaC (hd n hn),(λd h=>absurd h (by simp[zX5])),(λd h=>absurd h (by simp[zX5]))⟩
theorem zAkM {nm:List UInt8}:zCE prg zAg [(0,str nm),(1,.agg (zEP ⟨[1,0,0],[]⟩).toArray)]=some (.agg (mvC (zX5 nm [],zCq,zCq,zCq)).toArray):=by kernel_rfl
set_option maxHeartbeats 1000000 in
theorem zWD {P:zA3}{H:zAw}{nm:List UInt8}{v:Value}{ds:List (List UInt8)}(hT:zYl H)(hn:nm.length<=9223372036854775807)(hd:∀ d∈ds,d.length<=9223372036854775807)(hv:SlE 1 P H v (zRA ds))(hl:ds.length<=1000) :
  zAz prg zFn [str nm,str [49,46,48,46,48],v] H λu H'=>(∃ vd,u = .agg (mvC (zX5 nm (ds.map zNv),vd,zCq,zCq)).toArray/\BufE 6 (λb=>H.size<=b/\b<H'.size) H' vd ((ds.map zNv).map zED))/\Keep zAK H H':=by
 apply zM2
 unfold zLv
 simp only[zLF,zBb]
 generalize hH1:H.push (.cells (zGM ⟨[],zEY,[],[],[]⟩ zCq zCq zCq).toArray zAg (0,0))=H1
 have k1:Keep zAK H H1:=by rw[<- hH1];exact Keep.push
 have a1:At H1 H.size (zGM ⟨[],zEY,[],[],[]⟩ zCq zCq zCq):=by rw[<- hH1];exact At.push
 have l1:=a1.lt
 have T1:=hT.keep k1 λ_ h=>h.elim
 refine zAI (zAid T1.err T1.pow (by simp)) ?_
 rintro u h2 ⟨hR,k2⟩
 have hvw:(⟨[1,0,0],[]⟩:Ver).wf:=⟨rfl,by simp⟩
 have hok:zG4 ⟨[1,0,0],[]⟩=true:=by decide +kernel
 have hs:zHP ⟨[1,0,0],[]⟩=[49,46,48,46,48]:=by decide +kernel
 obtain rfl:u=Value.tuple #[.agg (zEP ⟨[1,0,0],[]⟩).toArray,.int .i64 0]:=by
  rcases hR with ⟨v',hww,ho,hs',rfl⟩|⟨hno,rfl⟩
  ·rw[show v'=⟨[1,0,0],[]⟩ from zZ0 hww.p3 hvw.p3 ho hok (by rw[hs',hs])]
  ·exact absurd hs (hno ⟨[1,0,0],[]⟩ hvw.p3 hok)
 have x0:∀ a b:Value,zE2 0 (.tuple #[a,b])=some a:=λ_ _=>rfl
 have x1:∀ a b:Value,zE2 1 (.tuple #[a,b])=some b:=λ_ _=>rfl
 rw[x0,zAa,x1,zAa]
 have zv:zBE prg zAT=some (zEP zEY).toArray:=by kernel_rfl
 simp only[zv,zBb]
 generalize hH3:h2.push (.cells (zEP zEY).toArray zAT (0,0))=h3
 have k3:Keep zAK h2 h3:=by rw[<- hH3];exact Keep.push
 have a3:At h3 h2.size (zEP zEY):=by rw[<- hH3];exact At.push
 obtain⟨h4,st4,a4,k4⟩:=a3.st (n:=4) (ds:=zEP ⟨[1,0,0],[]⟩) (zDU zG5) (zDU hvw) zMw
 have k24:Keep zAK h2 h4:=k3.fresh k4 λb hb=>by omega
 have k14:=k2.trans k24
 have g14:=k14.1
 rw[st4,zAV,a4.ldN (zDU hvw),zAa,zAkM,zAa]
 generalize hH5:h4.push (.cells (zGM ⟨[],zEY,[],[],[]⟩ zCq zCq zCq).toArray zAg (0,0))=h5
 have k5:Keep zAK h4 h5:=by rw[<- hH5];exact Keep.push
 have a5:At h5 h4.size (zGM ⟨[],zEY,[],[],[]⟩ zCq zCq zCq):=by rw[<- hH5];exact At.push
 have s5:h5.size=h4.size+1:=by rw[<- hH5];simp
 have w0:∀ i,(zX5 nm ((ds.take i).map zNv)).wf:=λi=>zWC hn λd h=>hd d (zBg h)
 have mone:∀ {m:Man} {t:Value},t.oneCell'=true->∀ c∈mvC (m,t,zCq,zCq),c.oneCell'=true:=λht c hc=>by
  rcases zAq.1 hc with rfl|hc
  ·rfl
  rcases zAs.1 hc with hc|hc
  ·exact zMw c hc
  ·simp only[zAq,zCb,or_false]at hc
   rcases hc with rfl|rfl|rfl
   ·exact ht
   ·rfl
   ·rfl
 obtain⟨h6,st6,a6,k6⟩:=a5.st (n:=8) (ds:=mvC (zX5 nm [],zCq,zCq,zCq)) (zBH zN6) (zBH (w0 0)) (mone rfl)
 have k46:Keep zAK h4 h6:=k5.fresh k6 λb hb=>by omega
 have k16:=k14.trans k46
 have g6:=k6.1
 rw[st6,zAV]
 have hlen:=hv.len
 rw[zOU]at hlen
 let I:Nat->zAw->Prop:=λi h=>∃ t,At h h4.size (mvC (zX5 nm ((ds.take i).map zNv),t,zCq,zCq))/\BufE 6 (λb=>h6.size<=b/\b<h.size) h t (((ds.take i).map zNv).map zED)/\Keep (· = h4.size) h6 h
 refine zNB (λ_ h=>I ds.length h) (λk7 hk7=>?_) ?_
 rotate_left
 ·rintro _ h8 ⟨t,a8,b8,k8⟩
  have w8:=w0 ds.length
  rw[zAp (zAi _)]at a8 b8 w8
  have k18:Keep zAK H1 h8:=k16.fresh k8 λb e=>by omega
  obtain⟨h14,st14,a14,k14'⟩:=(a1.keep k18 id).st (n:=8) (ds:=mvC (zX5 nm (ds.map zNv),t,zCq,zCq)) (zBH zN6) (zBH w8) (mone b8.sl.oneC)
  rw[a8.ldN (zBH w8),zAa,st14,zAV,a14.ldN (zBH w8),zAa]
  have g14':=k14'.1
  have g16:=k16.1
  have g1:=k1.1
  exact⟨⟨t,rfl,(b8.keep k14' λb hb=>by omega).mono λb hb=>by omega⟩,(k1.trans k18).fresh k14' λb e=>by omega⟩
 rw[hlen,zAa]
 refine zKn (λw h=>∃ i:Nat,i<=ds.length/\w = .int .i64 (i:Nat)/\I i h) (λw _=>match w with | .int _ t=>ds.length-t.toNat|_=>0) ⟨0,zAA _,rfl,zCq,a6,BufE.nil,Keep.refl⟩ ?_
 rintro _ h10 ⟨i,hi,rfl,t,a10,b10,k10⟩ k9 hk9
 have g10:=k10.1
 rw[zOC,zAa,zAl]
 by_cases hlt:i<ds.length
 rotate_left
 ·rw[if_neg (by simpa using hlt)]
  obtain rfl:i=ds.length:=by omega
  exact hk7 _ _ ⟨t,a10,b10,k10⟩
 rw[if_pos (by simpa using hlt)]
 have hg:ds[i]? = some ds[i]:=zAj hlt
 have hm:=zAH hlt
 generalize ds[i]=d at *
 have hdl:=hd d hm
 have k010:Keep zAK H h10:=(k1.trans k16).fresh k10 λb e=>by have:=k1.1;omega
 obtain⟨b,o,hix,hpt,_⟩:=(hv.keep k010 λ_ _=>id).at (i:=i) (x:=[str d]) (by simpa [zHM] using hg)
 have s42:(Value.string ⟨#[42]⟩)=str [42]:=rfl
 simp only[zBi,zAh,zAa]
 rw[hix .i64,zAa,hpt.cell0 rfl,zAa,(zG6 a10 (w0 i)).1,zAa,s42,b_W,zAa]
 show Mpu (zCE prg zAE [(0,str (zNv d).name),(1,.agg (zEC (zNv d).want).toArray)]) _
 have hds:=zAaC hdl
 rw[zX0 hds,zAa,zQF hds,zCo]
 have hr:=zO4 (x:=zED (zNv d)) (T:=zAE) (h:=h10) (n:=6) (zDx hds) zIh
 have kp:Keep zAK h10 (h10.push (.cells (zED (zNv d)).toArray zAE (0,0))):=Keep.push
 have gp:=kp.1
 have htl:(ds.take i).length=i:=by rw[zA5];omega
 refine((b10.keep kp λ_ _=>id).mono (G:=λb=>h6.size<=b) λb hb=>hb.1).app hr (by omega) (by rw[zAd,zAd,zBd];omega) (by show h6.size<=_;omega) λt' h12 b12 k12=>?_
 have g12:=k12.1
 have hv4:=zDU hvw
 obtain⟨h13,st13,a13,k13⟩:=((a10.keep kp id).keep k12 λe=>by omega).st1 (i:=5) (v:=t') (by have:(mvC (zX5 nm ((ds.take i).map zNv),t,zCq,zCq)).length=8:=zBH (w0 i);omega) b12.sl.oneC
 have hts:ds.take (i+1)=ds.take i++[d]:=by rw[zAF,hg];rfl
 rw[st13,zAV,zB0 (by omega),zAa]
 refine hk9 _ _ ⟨i+1,by omega,rfl,t',?_,?_,?_⟩ (by show ds.length-(i+1)<ds.length-i;omega)
 ·have e:(mvC (zX5 nm ((ds.take i).map zNv),t,zCq,zCq)).set 5 t'=mvC (zX5 nm ((ds.take (i+1)).map zNv),t',zCq,zCq):=by simp[mvC,zGM,zX5,List.set_append,hv4,zEP]
  rw[e]at a13;exact a13
 ·rw[hts,zAG,zAG]
  have g13:=k13.1
  exact((BufE.re b12 (G:=λb=>h6.size<=b/\b<h12.size) λb h1 h2=>⟨h2,h1⟩).keep k13 λb hb e=>by omega).mono λb hb=>by omega
 ·exact((k10.trans (kp.mono λ_ _ h=>h.elim)).fresh' k12 λb hb => .inr hb).trans k13
def kA:Man:=zX5 [97] ([].map zNv)
def kB:Man:=zX5 [98] ([[99]].map zNv)
def kC:Man:=zX5 [99] ([].map zNv)
def k1P:Pk:=(kB,[])
def k2P:Pk:=(kC,[])
def zAev:zPB:=⟨1,[98],⟨[42],zEY⟩,9⟩
theorem zAiX:zAev.wf:=⟨by simp[zAev],⟨zG5,by simp[zAev]⟩⟩
theorem zAhd:zAbu [] k1P=0/\zTr [] k1P=[k1P]:=by
 have h:zUK k1P=true:=by decide +kernel
 exact⟨by unfold zAbu;rw[h];rfl,by unfold zTr;rw[h];rfl⟩
theorem zAhe:zAbu [k1P] k2P=0/\zTr [k1P] k2P=[k1P,k2P]:=by
 have h:zUK k2P=true:=by decide +kernel
 have h2:[k1P].find? (zKJ k2P.1.name k2P.1.ver)=none:=by
  rw[zCx]
  intro x hx
  rw[zAM.1 hx]
  decide +kernel
 exact⟨by unfold zAbu;rw[h,h2];rfl,by unfold zTr;rw[h,h2];rfl⟩
def kHv:List Man:=[kA,kB,kC]
def kWs:List Dep:=[⟨[98],⟨[42],zEY⟩⟩,⟨[97],⟨[61],⟨[1,0,0],[]⟩⟩⟩]
theorem zAiY:zDE [kA]=true:=by decide +kernel
theorem zAmb:zLI zAev=true:=by decide +kernel
theorem zAiZ:zE1 [kA] [k1P,k2P]=kHv:=by
 have h1:zUw [kA] kB=true:=by decide +kernel
 have h2:zUw [kA] kC=true:=by decide +kernel
 unfold zE1
 show [kA]++[kB,kC].filter (zUw [kA])=_
 rw[zBS,h1,zBS,h2];rfl
theorem zAi0:zNg [kA] zAev.name zAev.want=kWs:=rfl
theorem zAnm:zHF kHv kWs 9=true:=by decide +kernel
theorem zAmc:Run kHv 9 (.sol [] kWs) 0 (.ok [1,0,2]) 3:=by
 have e1:zQc kHv ⟨[98],⟨[42],zEY⟩⟩=[1]:=by decide +kernel
 have e2:zQc kHv ⟨[97],⟨[61],⟨[1,0,0],[]⟩⟩⟩=[0]:=by decide +kernel
 have e3:zQc kHv (zNv [99])=[2]:=by decide +kernel
 refine Run.go (d:=⟨[98],⟨[42],zEY⟩⟩) (ws:=[⟨[97],⟨[61],⟨[1,0,0],[]⟩⟩⟩]) (by decide +kernel) ?_
 rw[e1]
 refine Run.down (by decide) (by decide +kernel) ?_ (by simp)
 refine Run.go (d:=⟨[97],⟨[61],⟨[1,0,0],[]⟩⟩⟩) (ws:=[zNv [99]]) (by decide +kernel) ?_
 rw[e2]
 refine Run.down (by decide) (by decide +kernel) ?_ (by simp)
 refine Run.go (d:=zNv [99]) (ws:=[]) (by decide +kernel) ?_
 rw[e3]
 refine Run.down (by decide) (by decide +kernel) ?_ (by simp)
 exact Run.done
theorem zAf1:(zE0 kHv [1,0,2]).map (gM kHv)=kHv:=by
 have h:zE0 kHv [1,0,2]=[0,1,2]:=by decide +kernel
 rw[h];rfl
theorem zAkN:zDE kHv=true:=by decide +kernel
theorem zAkO:[kA].filter (λm=>!zIC kHv m)=[]:=by
 have h:zIC kHv kA=true:=by decide +kernel
 rw[zBS,h];rfl
theorem zAmd:(kHv.filter λm=>!zIC [kA] m)=[kB,kC]:=by
 have h1:zIC [kA] kA=true:=by decide +kernel
 have h2:zIC [kA] kB=false:=by decide +kernel
 have h3:zIC [kA] kC=false:=by decide +kernel
 unfold kHv
 rw[zBS,h1,zBS,h2,zBS,h3];rfl
theorem zAkP {x:MV}(h:x.1.wf):zCE prg zA6 [(0,.agg (mvC x).toArray)]=some (.agg (pvC (x,zCq,[])).toArray):=by
 have k:zMQ prg zA6=some ([(0,8),(8,1)],(pvC zPW).toArray):=by kernel_rfl
 obtain⟨a,b,c,e⟩:=Ver.cases3 h.ver
 obtain⟨⟨n,⟨p,pre⟩,d1,d2,d3⟩,v1,v2,v3⟩:=x
 simp only at e
 subst e
 rw[zIJ k];rfl
theorem zAi1:zCE prg zEv [(0,.int .i64 1),(1,str [98]),(2,.agg (zEC ⟨[42],zEY⟩).toArray),(3,.int .i64 9)]=some (.agg (zQ7 zAev).toArray):=by kernel_rfl
theorem zAme {s:List UInt8}:zGj prg zBJ 1 [(0,str s)]=some #[str s]:=zAlB
set_option maxHeartbeats 2000000 in
theorem zX6 {H:zAw}(hT:zYl H)(hS:zTe H):zAz prg zCN [] H λu H'=>u = .bool true/\Keep zAK H H':=by
 apply zMq
 unfold zKB
 have hNG:NG<=H.size:=hS.sz
 have s97:(Value.string ⟨#[97]⟩)=str [97]:=rfl
 have s98:(Value.string ⟨#[98]⟩)=str [98]:=rfl
 have s99:(Value.string ⟨#[99]⟩)=str [99]:=rfl
 have sv1:(Value.string ⟨#[49,46,48,46,48]⟩)=str [49,46,48,46,48]:=rfl
 have s42:(Value.string ⟨#[42]⟩)=str [42]:=rfl
 rw[s97,s98,s99,sv1,s42]
 have pn:∀ x,zAB .ptr .eql (Ptr x 0) (.pointer none)=some (.bool false):=λx=>rfl
 have ne0:∀ n:Int,zAB .no .neq (.int .i64 n) (.int .i64 0)=some (.bool (!decide (n=0))):=λn=>neI
 refine zAI zXZ ?_
 rintro _ h1 ⟨rfl,q1,k1⟩
 have g1:=k1.1
 rw[pn,zAa]
 refine zDJ rfl ?_
 rw[zAme,zCo]
 have hr:=zO4 (x:=[str [99]]) (T:=zBJ) (h:=h1) (n:=1) rfl (λc hc=>by rw[zAM.1 hc];rfl)
 have k3:Keep zAK h1 (h1.push (.cells [str [99]].toArray zBJ (0,0))):=Keep.push
 generalize h1.push (.cells [str [99]].toArray zBJ (0,0))=h3 at *
 have k03:=k1.trans k3
 refine zAI (zWD (nm:=[98]) (ds:=[[99]]) (hT.keep k03 λ_ h=>h.elim) (by simp) (by simp) hr (by simp)) ?_
 rintro _ h4 ⟨⟨vd,rfl,bd⟩,k4⟩
 have k04:=k03.trans k4
 have g04:=k04.1
 have g34:=k03.1
 have wB:kB.wf:=zWC (by simp) (by simp)
 have wC:kC.wf:=zWC (by simp) (by simp)
 have wA:kA.wf:=zWC (by simp) (by simp)
 let xB:PW:=((kB,vd,zCq,zCq),zCq,[])
 have hxB:zAfT (λb=>h3.size<=b/\b<h4.size) h4 xB:=⟨⟨bd.sl,SlE.nil,SlE.nil,wB⟩,⟨SlE.nil,λx hx=>(by cases hx)⟩,(by decide:kB.deps.length<=1000),(by decide:kB.conf.length<=1000),(by decide:kB.files.length<=1000)⟩
 show Mpu (zCE prg zA6 [(0,.agg (mvC xB.1).toArray)]) _
 rw[zAkP (x:=xB.1) wB,zAa]
 have q4:=(q1.keep k3 λ_ _=>id).keep k4 λ_ _=>id
 refine zAI (zAiR (x:=xB) q4 hxB (λb hb=>hb.2) (by simp) (hT.keep k04 λ_ h=>h.elim).ops (hS.keep k04 λ_ h=>h.elim)) ?_
 rintro _ h5 ⟨rfl,⟨R5,q5,hR5⟩,k5⟩
 have k05:Keep zAK H h5:=k04.fresh k5 λb e=>by omega
 have g5:=k5.1
 have ep:zJA xB=k1P:=rfl
 rw[ep,zAhd.1,ne0,zAa]
 rw[ep,zAhd.2]at q5
 rw[zAv,if_neg (by decide),zAa]
 refine zDJ rfl ?_
 refine zAI (zWD (P:=λ_=>False) (nm:=[99]) (ds:=[]) (hT.keep k05 λ_ h=>h.elim) (by simp) (by simp) SlE.nil (by simp)) ?_
 rintro _ h8 ⟨⟨vd2,rfl,bd2⟩,k8⟩
 have k08:=k05.trans k8
 have g8:=k8.1
 let xC:PW:=((kC,vd2,zCq,zCq),zCq,[])
 have hxC:zAfT (λb=>h5.size<=b/\b<h8.size) h8 xC:=⟨⟨bd2.sl,SlE.nil,SlE.nil,wC⟩,⟨SlE.nil,λx hx=>(by cases hx)⟩,(by decide:kC.deps.length<=1000),(by decide:kC.conf.length<=1000),(by decide:kC.files.length<=1000)⟩
 show Mpu (zCE prg zA6 [(0,.agg (mvC xC.1).toArray)]) _
 rw[zAkP (x:=xC.1) wC,zAa]
 refine zAI (zAiR (x:=xC) (q5.keep k8 λ_ _=>id) hxC (λb hb=>hb.2) (by simp) (hT.keep k08 λ_ h=>h.elim).ops (hS.keep k08 λ_ h=>h.elim)) ?_
 rintro _ h9 ⟨rfl,⟨R9,q9,hR9⟩,k9⟩
 have k09:Keep zAK H h9:=k08.fresh k9 λb e=>by
  rcases hR5 b e with e|e<;>omega
 have g9:=k9.1
 have ep2:zJA xC=k2P:=rfl
 rw[ep2,zAhe.1,ne0,zAa]
 rw[ep2,zAhe.2]at q9
 rw[zAv,if_neg (by decide),zAa]
 refine zDJ rfl ?_
 refine zAI (zSe q9) ?_
 rintro _ _ ⟨rfl,rfl⟩
 have n2:zAB .no .neq (.int .i64 (([k1P,k2P].length:Nat):Int)) (.int .i64 2)=some (.bool false):=rfl
 rw[n2,zAa]
 show Mpu (zBw (.bool false) (.bool true) (.bool false)) _
 rw[zAv,if_neg (by decide),zAa,zAl,if_neg (by decide)]
 refine zAI (zWD (P:=λ_=>False) (nm:=[97]) (ds:=[]) (hT.keep k09 λ_ h=>h.elim) (by simp) (by simp) SlE.nil (by simp)) ?_
 rintro _ h14 ⟨⟨vd3,rfl,bd3⟩,k14⟩
 have k014:=k09.trans k14
 have g14:=k14.1
 have g09:=k09.1
 let xA:MV:=(kA,vd3,zCq,zCq)
 have hmA:zMx (λb=>h9.size<=b/\b<h14.size) h14 kA vd3 zCq zCq:=⟨bd3.sl,SlE.nil,SlE.nil,wA⟩
 show zD2 h14 zAg 1 (zGj prg zAg 1 [(0,.agg (mvC xA).toArray)]) _
 rw[zOa (zBH wA),zCo]
 have hrA:=zO4 (x:=mvC xA) (T:=zAg) (h:=h14) (n:=8) (zBH wA) (zF4 (x:=xA) hmA)
 have k15:Keep zAK h14 (h14.push (.cells (mvC xA).toArray zAg (0,0))):=Keep.push
 have s15:(h14.push (.cells (mvC xA).toArray zAg (0,0))).size=h14.size+1:=by simp
 generalize h14.push (.cells (mvC xA).toArray zAg (0,0))=h15 at *
 have k015:=k014.trans k15
 have hp:zNj (λb=>h9.size<=b/\b<h15.size) h15 (.slice (some ⟨h14.size,0,none⟩) 1 1) [xA]:=⟨hrA.mono λb hb=>by omega,λx hx=>by
  rw[zAM.1 hx]
  exact(hmA.keep k15 λ_ _=>id).mono λb hb=>by omega,λx hx=>by rw[zAM.1 hx];exact⟨(by decide:kA.deps.length<=1000),(by decide:kA.conf.length<=1000)⟩⟩
 rw[b_W,zAa,zAi1,zAa]
 refine zAI (zAiW hp ((q9.keep k14 λ_ _=>id).keep k15 λ_ _=>id) (λb hb=>hb.2) zAiX rfl (by simp) (hT.keep k015 λ_ h=>h.elim).ops (by have:=k015.1;omega)) ?_
 rintro u h16 ⟨hu,k16⟩
 have k016:=k015.trans k16
 have hin:zBV [xA]=[kA]:=rfl
 rw[hin]at hu
 have good:(zDE [kA]&&zLI zAev)=true:=by rw[zAiY,zAmb];rfl
 have hno:[kA].find? (λm=>decide (m.name=zAev.name))=none:=by decide +kernel
 obtain⟨n0,z,col,d,s,t,dr,ad,af,rfl,hz,hc,e1,e2,e3⟩:∃ n0 z col d s t dr ad af,u = .tuple #[.agg (chC 1 d s t).toArray,.int .i64 0]/\h15.size<=z/\ChI n0 z 1 col d s t dr ad af h16/\dr.length=0/\ad.length=2/\af.length=3:=by
  rcases hu with ⟨h,_⟩|⟨_,⟨h,_⟩|⟨_,h⟩⟩
  ·rw[good]at h;cases h
  ·rw[hno]at h;cases h
  ·rw[zAiZ,zAi0]at h
   rcases h with ⟨h,_⟩|⟨_,r,st,hrun,h⟩
   ·rw[show zAev.bound=9 from rfl,zAnm]at h;cases h
   ·obtain⟨rfl,rfl⟩:=Run.det hrun zAmc
    simp only at h
    rw[zAf1]at h
    rcases h with ⟨h,_⟩|⟨_,n0,z,col,d,s,t,dr,ad,af,rfl,h2,h3,h4,h5,h6⟩
    ·rw[zAkN]at h;cases h
    ·rw[zAkO]at h4
     rw[zAmd]at h5
     refine⟨n0,z,col,d,s,t,dr,ad,af,rfl,h2,h3,?_,?_,?_⟩
     ·have:=congrArg List.length h4;simpa using this
     ·have:=congrArg List.length h5;simpa using this
     ·have:=congrArg List.length h6;simpa [kHv] using this
 have x0:∀ a b:Value,zE2 0 (.tuple #[a,b])=some a:=λ_ _=>rfl
 have x1:∀ a b:Value,zE2 1 (.tuple #[a,b])=some b:=λ_ _=>rfl
 rw[x0,zAa,x1,zAa]
 simp only[zTE,zBb]
 generalize hH17:h16.push (.cells (chC 0 zCq zCq zCq).toArray zCg (0,0))=h17
 have k17:Keep zAK h16 h17:=by rw[<- hH17];exact Keep.push
 have a17:At h17 h16.size (chC 0 zCq zCq zCq):=by rw[<- hH17];exact At.push
 obtain⟨h18,st18,a18,k18⟩:=a17.st (n:=4) (ds:=chC 1 d s t) rfl rfl (zRu hc.bd.sl.oneC hc.bs.sl.oneC hc.bt.sl.oneC)
 have g016:=k016.1
 have k018:=(k016.trans k17).fresh k18 λb e=>by omega
 have ls:=hc.bs.sl.len
 have ld:=hc.bd.sl.len
 have lt:=hc.bt.sl.len
 rw[zAd,e2]at ls
 rw[zAd,e1]at ld
 rw[zAd,e3]at lt
 simp only[zBi,zAh,zAa]
 rw[st18,zAV]
 have z0:zAB .no .eql (.int .i64 0) (.int .i64 0)=some (.bool true):=rfl
 have z2:zAB .no .eql (.int .i64 ((2:Nat):Int)) (.int .i64 2)=some (.bool true):=rfl
 have z00:zAB .no .eql (.int .i64 ((0:Nat):Int)) (.int .i64 0)=some (.bool true):=rfl
 have z3:zAB .no .eql (.int .i64 ((3:Nat):Int)) (.int .i64 3)=some (.bool true):=rfl
 rw[z0,zAa]
 refine zDJ rfl ?_
 rw[a18.ld (i:=2) rfl,zAa,ls,zAa,z2,zAa]
 show Mpu (zBw (.bool true) (.bool true) (.bool false)) _
 rw[zAv,if_pos rfl,zAa]
 refine zDJ rfl ?_
 rw[a18.ld (i:=1) rfl,zAa,ld,zAa,z00,zAa]
 show Mpu (zBw (.bool true) (.bool true) (.bool false)) _
 rw[zAv,if_pos rfl,zAa]
 refine zDJ rfl ?_
 rw[a18.ld (i:=3) rfl,zAa,lt,zAa,z3,zAa]
 show Mpu (zBw (.bool true) (.bool true) (.bool false)) _
 rw[zAv,if_pos rfl,zAa]
 exact⟨rfl,k018⟩
def hxL:List UInt8:=[48,49,50,51,52,53,54,55,56,57,97,98,99,100,101,102]
def hxD (n:Nat):UInt8:=hxL.getD n 0
def hx2 (c:UInt8):List UInt8:=[hxD (c.toNat / 16),hxD (c.toNat % 16)]
theorem zAhf {n:Nat}(h:n<16):hxL[n]? = some (hxD n):=by
 unfold hxD
 have:n<hxL.length:=h
 simp[List.getD,this]
theorem u8s:∀ c:UInt8,zAB .no .shr (.int .u8 (c.toNat:Nat)) (.int .u64 4)=some (.int .u8 ((c.toNat / 16:Nat):Int)):=λc=>by
 rw[zSG (by omega)]
 exact congrArg (λz=>some (Value.int .u8 z)) (zSI (k := .u8) (u:=c.toNat) (b:=4) (by decide))
theorem zAi2:∀ n:Fin 256,(IntKind.u8.wrap ((BitVec.ofInt IntKind.u8.bits ((n.1:Nat):Int) &&& BitVec.ofInt IntKind.u8.bits 15).toNat:Int))=((n.1 % 16:Nat):Int):=by decide +kernel
theorem u8a:∀ c:UInt8,zAB .no .and (.int .u8 (c.toNat:Nat)) (.int .u8 15)=some (.int .u8 ((c.toNat % 16:Nat):Int)):=λc=>by
 rw[zAJ];simp only[zC5]
 congr 2
 exact zAi2 ⟨c.toNat,c.toNat_lt⟩
theorem zAmf {a b:Int}:zGj prg zCk 2 [(0,.int .u8 a),(1,.int .u8 b)]=some #[.int .u8 a,.int .u8 b]:=by kernel_rfl
theorem zAd4 {d:List UInt8}:((d.map hx2).flatten).length=2*d.length:=by
 induction d with
 | nil=>rfl
 | cons a d ih=>rw[zA2,zA7,zAt,ih];simp[hx2];omega
theorem zAbx {H:zAw}{l:List UInt8}(hl:l.length=32):zAz prg zJU [bv l] H λu H'=>u=str ((l.map hx2).flatten)/\Keep zAK H H':=by
 apply zPy
 unfold zPi
 have ec:Value.cells (bv l)=(zBD l).toArray:=rfl
 rw[ec,zBb]
 generalize hH1:H.push (.cells (zBD l).toArray zCj (0,0))=h1
 have k1:Keep zAK H h1:=by rw[<- hH1];exact Keep.push
 have a1:At h1 H.size (zBD l):=by rw[<- hH1];exact At.push
 have g1:=k1.1
 have sh:(Value.string ⟨#[48,49,50,51,52,53,54,55,56,57,97,98,99,100,101,102]⟩)=str hxL:=rfl
 rw[sh]
 refine zMC (λu _ h=>Buf (h1.size <= ·) h u ((l.map hx2).flatten)/\Keep zAK H h) (λk hk=>?_) ?_
 ·rw[a1.ldN (n:=32) (by simp[hl]),zAa]
  refine zVc (λu t h=>∃ i:Nat,i<=32/\t = .int .i64 (i:Nat)/\Buf (h1.size <= ·) h u (((l.take i).map hx2).flatten)/\Keep zAK h1 h) (λ_ u _=>match u with | .int _ t=>32-t.toNat|_=>0) ⟨0,zAA _,rfl,.inl ⟨rfl,rfl⟩,Keep.refl⟩ ?_
  rintro u _ h ⟨i,hi,rfl,hb,kh⟩ kk hkk
  have el:zAB .no .lss (.int .i64 (i:Nat)) (.int .i64 32)=some (.bool (decide (i<32))):=by
   rw[zAJ];simp only[zC5];congr 2;rw[decide_eq_decide];omega
  rw[el,zAa,zAl]
  by_cases hlt:i<32
  rotate_left
  ·rw[if_neg (by simpa using hlt)]
   rw[zAp (by omega)]at hb
   exact hk _ _ _ ⟨hb,k1.trans kh⟩
  rw[if_pos (by simpa using hlt)]
  have hg:l[i]? = some (l[i]'(by omega)):=zAj (by omega)
  have hix:ixV 32 false 1 (.agg (zBD l).toArray) (.int .i64 (i:Nat))=some (.int .u8 ((l[i]'(by omega)).toNat:Nat)):=by
   simp only[ixV]
   rw[if_pos ⟨by omega,by omega⟩]
   simp only[zAb,if_false,zCv,zCR]
   rw[zDg]
   unfold zBD
   rw[zAr,hg];rfl
  have htk:((l.take (i+1)).map hx2).flatten=((l.take i).map hx2).flatten++hx2 (l[i]'(by omega)):=by
   rw[zAF,hg,zAG,zBt]
   simp only[Option.toList_some,zA2,List.map_nil,zA7,zCm,zAP]
  generalize l[i]'(by omega)=c at *
  have hc:=c.toNat_lt
  have h1':=zAhf (n:=c.toNat / 16) (by omega)
  have h2':=zAhf (n:=c.toNat % 16) (by omega)
  rw[hix,zAa,u8s,zAa,zLT h1',zAa,u8a,zAa,zLT h2',zAa,zAmf,zCo]
  generalize hH5:h.push (.cells #[.int .u8 ((hxD (c.toNat / 16)).toNat:Nat),.int .u8 ((hxD (c.toNat % 16)).toNat:Nat)] zCk (0,0))=h5
  have k5:Keep zAK h h5:=by rw[<- hH5];exact Keep.push
  have s5:h5.size=h.size+1:=by rw[<- hH5];simp
  have hbs:Bs h5 (.slice (some ⟨h.size,0,none⟩) 2 2) (hx2 c):=by
   rw[<- hH5];exact Bs.mk zCh rfl (by simp) rfl
  have gh:=kh.1
  have hl3:(l.take i).length<=32:=by rw[zA5];omega
  refine(hb.keep k5 λ_ _=>id).app hbs (by rw[zAd4];show _+2<=_;omega) (by show h1.size<=h5.size;omega) λv2 h6 hv2 k6=>?_
  rw[zB0 (by omega),zAa]
  exact hkk _ _ _ ⟨i+1,by omega,rfl,by rw[htk];exact hv2,(kh.trans k5).fresh k6 λb hb=>hb⟩ (by show 32-(i+1)<32-i;omega)
 ·rintro u _ h ⟨hb,kh⟩
  rw[hb.sl.b2s,zAa]
  exact⟨rfl,kh⟩
theorem zAd5 {Pd:zA3}{H:zAw}{v:Value}{m:List UInt8}(hx:Sl Pd H v m)(hT:zTe H)(hPd:∀ b,Pd b->b<H.size)(hl:m.length<=1099511627776) :
  zAz prg zSt [v] H λu H'=>u=bv (zAcG (0::m))/\Keep zAK H H':=by
 apply zSC
 unfold zT6
 obtain⟨va,vc,hve,_⟩:=hx.sl
 simp only[zZQ,zBb,hve,zAil,zCo]
 rw[<- hve]
 generalize hH2:H.push (.cells (zBD zP6).toArray zCj (0,0))=H2
 have k2:Keep zAK H H2:=by rw[<- hH2];exact Keep.push
 have hs2:H2.size=H.size+1:=by rw[<- hH2];simp
 have hr2:H2[H.size]? = some (.cells (zBD zP6).toArray zCj (0,0)):=by rw[<- hH2];exact zCh
 generalize hH3:H2.push (.cells #[v] zEq (0,0))=H3
 have k3:Keep zAK H2 H3:=by rw[<- hH3];exact Keep.push
 have hs3:H3.size=H2.size+1:=by rw[<- hH3];simp
 have hv3:H3[H2.size]? = some (.cells #[v] zEq (0,0)):=by rw[<- hH3];exact zCh
 have kk:Keep zAK H H3:=k2.trans k3
 have sv:Sl Pd H3 v m:=hx.keep kk λ_ _=>id
 have hvv:SlE 1 (· = H2.size) H3 (.slice (some ⟨H2.size,0,none⟩) 1 1) (zHM ([(v,m)].map (·.1))):=by
  refine⟨⟨_,1,rfl,zAi _,.inr ⟨H2.size,0,rfl,rfl,?_⟩⟩,zQr,zVi (P:=Pd) (H:=H3) ?_⟩
  ·rw[zMB];exact Pt.of hv3
  ·intro x hx;simp at hx;subst hx;exact sv
 refine zAI (zXk (Pd:=Pd) hvv ?_ (hT.keep kk λ_ h=>h.elim) (λb hb=>by omega) (λb hb=>?_) ?_ (by simp)) ?_
 ·intro x hx;simp at hx;subst hx;exact sv
 ·have:=hPd b hb;omega
 ·simp[zKg];omega
 rintro _ H4 ⟨rfl,k4⟩
 have hr4:=(k3.trans k4).at hr2 id
 have e6:(bO 0::zKg [(v,m)])=0::m:=by simp[zKg];rfl
 rw[zRQ hr4 (n:=32) rfl zGh,zAV,zPO (zBp hr4) zGh,zAa]
 refine⟨by rw[e6],?_⟩
 have:=(kk.trans k4)
 refine⟨by simp;exact this.1,λi hi _=>?_⟩
 rw[zAC,if_neg (by omega),this.2 i hi id]
def zSf:List UInt8:=[102,105,108,101]
def zUz (f:zHu):List UInt8:=zUk [zSf,f.name,zWL f.size,(f.sum.map hx2).flatten]
def zAjr (m:Man):List UInt8:=zAfr m++(m.files.map zUz).flatten
theorem zAmg {a b c d:List UInt8}:zGj prg zBJ 4 [(0,str a),(1,str b),(2,str c),(3,str d)]=some ([a,b,c,d].map str).toArray:=by kernel_rfl
theorem zZl:∀ {k n:Nat},1<=k->n<10 ^ k->(zHk n).length<=k
 | 0,_,h,_=>by omega
 | 1,n,_,h=>by rw[zHk,if_pos (by omega)];simp
 | k+2,n,_,h=>by
  rw[zHk]
  split
  ·simp
  ·have h1:n / 10<10 ^ (k+1):=by
    rw[Nat.div_lt_iff_lt_mul (by omega)]
    rw[Nat.pow_succ]at h;exact h
   have:=zZl (k:=k+1) (n:=n / 10) (by omega) h1
   rw[zAt,zBd];omega
theorem zAd6 {n:Int}(h1 : -9223372036854775808<=n)(h:n<=1048576):(zWL n).length<=100:=by
 unfold zWL
 split
 ·have:=zZl (k:=19) (n:=(-n).toNat) (by omega) (by omega)
  rw[zAQ];omega
 ·have:=zZl (k:=19) (n:=n.toNat) (by omega) (by omega);omega
theorem zUA {f:zHu}(w:f.wf)(h1:f.name.length<=64)(h2:f.size<=1048576):(zUz f).length<=300:=by
 have:=zR7 (l:=[zSf,f.name,zWL f.size,(f.sum.map hx2).flatten])
 have h3:=zAd6 w.size.1 h2
 have h4:=zAd4 (d:=f.sum)
 have h5:=w.sum
 unfold zUz
 simp[total,zSf]at this ⊢
 have h6:(List.map (List.length ∘ hx2) f.sum).sum=2*f.sum.length:=by
  rw[<- h4];simp[List.length_flatten]
 omega
theorem zAaD {m:Man}(w:∀ f∈m.files,f.wf)(f3:∀ f∈m.files,f.name.length<=64)(f4:∀ f∈m.files,f.size<=1048576)(f1:m.files.length<=64)(hms:(zAfr m).length<=1099511627):(zAjr m).length<=1099611627:=by
 have:=zQa (f:=zUz) (n:=300) (l:=m.files) λx hx=>zUA (w x hx) (f3 x hx) (f4 x hx)
 unfold zAjr
 rw[zAt];omega
theorem zAd7 {P:zA3}{p:Nat}{H:zAw}{v:Value}{l:List zHu}{acc:List UInt8}{k:zAm}
  (hv:SlE 34 P H v (l.map zEf)) (hP:∀ b,P b->b<p) (hb:BAt (p < ·) p H acc) (hp:p<H.size) (hw:∀ d∈l,d.wf) (hok:∀ d∈l,d.name.length<=64/\d.size<=1048576) (hl:l.length<=64) (hacc:acc.length<=1099511627)
  (hT:zYj H) (hN:NG<=p)
  (hk:∀ u h,BAt (p < ·) p h (acc++(l.map zUz).flatten)->Keep (p <= ·) H h->k u h) :
  L1 (λk30=>λt57_2 h31 =>
    Mpu (zAB .no .lss t57_2 (.int .i64 (l.length:Nat))) λt58 =>
    Mcd t58 (
     Mpu (ixS 34 v t57_2) λt59 =>
     Mpu (ldN 34 h31 t59) λt60 =>
     zDq h31 zBq (zBE prg zBq) λt10 h32 =>
     Mwr (stN 34 h32 t10 t60) λh33 =>
     Mpu (fld 0 t10) λt61 =>
     Mpu (ld1 h33 t61) λt62 =>
     Mpu (fld 33 t10) λt63 =>
     Mpu (ld1 h33 t63) λt64 =>
     Mpu (fld 1 t10) λt66 =>
     Mpu (ldN 32 h33 t66) λt67 =>
     zAY prg zFB [t64] h33 λt65 h34 =>
     Mre [(ldN 32 h34 t66,t67),(ld1 h34 t61,t62)] (
     zAY prg zJU [t67] h34 λt68 h35 =>
     Mre [(ld1 h35 t61,t62)] (
     zD2 h35 zBJ 4 (zGj prg zBJ 4 [(0,str zSf),(1,t62),(2,t65),(3,t68)]) λt69 h36 =>
     zAY prg zEU [t69] h36 λt70 h37 =>
     zAY prg zB2 [Ptr p 0,t70] h37 λ_ h38 =>
     Mpu (zAB .no .add t57_2 (.int .i64 1)) λt72 =>
     k30 t72 h38))) (
     k t57_2 h31)) ((.int .i64 0)) H:=by
 refine zKn (λu h=>∃ i:Nat,i<=l.length/\u = .int .i64 (i:Nat)/\BAt (p < ·) p h (acc++((l.take i).map zUz).flatten)/\Keep (p <= ·) H h) (λu _=>match u with | .int _ t=>l.length-t.toNat|_=>0) ⟨0,zAA _,rfl,by simpa using hb,Keep.refl⟩ ?_
 rintro _ h ⟨i,hi,rfl,hbi,kh⟩ k2 hk2
 rw[zOC,zAa,zAl]
 by_cases hlt:i<l.length
 rotate_left
 ·rw[if_neg (by simpa using hlt)]
  rw[zAp (by omega)]at hbi
  exact hk _ _ hbi kh
 rw[if_pos (by simpa using hlt)]
 have hg:l[i]? = some l[i]:=zAj hlt
 obtain⟨b,o,hix,hpt,_⟩:=(hv.keep kh λb hb=>by have:=hP b hb;omega).at (i:=i) (x:=zEf l[i]) (by rw[zAr,hg];rfl)
 have hwd:=hw _ (zAH hlt)
 have hnd:=hok _ (zAH hlt)
 have htk:((l.take (i+1)).map zUz).flatten=((l.take i).map zUz).flatten++zUz l[i]:=by
  rw[zAF,hg,zAG,zBt]
  simp only[Option.toList_some,zA2,List.map_nil,zA7,zCm,zAP]
 generalize l[i]=f at *
 rw[hix .i64,zAa,hpt.agg (zDP hwd),zAa]
 simp only[zAc1,zBb,zBi,zAh,zAu,zAa]
 generalize hH6:h.push (.cells (zEf zWo).toArray zBq (0,0))=h6
 have k6:Keep zAK h h6:=by rw[<- hH6];exact Keep.push
 have a6:At h6 h.size (zEf zWo):=by rw[<- hH6];exact At.push
 obtain⟨h7,st7,a7,k7⟩:=a6.st (n:=34) (ds:=zEf f) (zDP zWp) (zDP hwd) zNc
 have g1:=kh.1
 have g6:=k6.1
 have k17:Keep zAK h h7:=k6.fresh k7 λb hb=>by omega
 have kH7:Keep (p <= ·) H h7:=kh.trans (k17.mono λ_ _ h=>h.elim)
 have d0:∀ h',Keep zAK h7 h'->ld1 h' (Ptr h.size 0)=some (str f.name):=λh' k=>(a7.keep k id).ld rfl
 have d1:∀ h',Keep zAK h7 h'->ldN 32 h' (Ptr h.size 1)=some (bv f.sum):=λh' k=>by
  have:=zAc2 (a7.keep k id).pt hwd
  rwa [zAh]at this
 have d33:=zYX a7.pt hwd
 rw[zAh]at d33
 rw[st7,zAV,d0 _ Keep.refl,zAa,d33,zAa,d1 _ Keep.refl,zAa]
 refine zAI (zAit hwd.size.1 hwd.size.2 (hT.keep kH7 λb hb=>by omega)) ?_
 rintro _ h8 ⟨rfl,k8⟩
 rw[d1 _ k8,d0 _ k8,zBm,zBm,zA8]
 refine zAI (zAbx hwd.sum) ?_
 rintro _ h8' ⟨rfl,k8'⟩
 rw[d0 _ (k8.trans k8'),zBm,zA8,zAmg,zCo]
 generalize hH9:h8'.push (.cells ([zSf,f.name,zWL f.size,(f.sum.map hx2).flatten].map str).toArray zBJ (0,0))=h9
 have k9:Keep zAK h8' h9:=by rw[<- hH9];exact Keep.push
 have a9:At h9 h8'.size ([zSf,f.name,zWL f.size,(f.sum.map hx2).flatten].map str):=by rw[<- hH9];exact At.push
 have hdl:(zUz f).length<=300:=zUA hwd hnd.1 hnd.2
 have hil:=zAd6 hwd.size.1 hnd.2
 have hxl:=zAd4 (d:=f.sum)
 have hsl:=hwd.sum
 refine zAI (zAcZ a9 rfl (by simp) (by
  have e:total [zSf,f.name,zWL f.size,(f.sum.map hx2).flatten]=4+(f.name.length+((zWL f.size).length+((f.sum.map hx2).flatten).length)):=by
   generalize (f.sum.map hx2).flatten=z
   unfold total
   simp[zSf]
   omega
  rw[e];omega)) ?_
 rintro _ h10 ⟨rfl,k10⟩
 have kk:Keep zAK h h10:=k17.trans ((k8.trans k8').trans (k9.trans k10))
 have hb10:=hbi.keep kk λ_ _=>id
 have hfl:=zQa (f:=zUz) (n:=300) (l:=l.take i) λx hx=>zUA (hw x (zBg hx)) (hok x (zBg hx)).1 (hok x (zBg hx)).2
 have hti:(l.take i).length<=64:=by rw[zA5];omega
 have hsz:=kk.1
 refine zAI (zIg hb10 (by
  rw[zAt]
  have:(zUk [zSf,f.name,zWL f.size,(f.sum.map hx2).flatten]).length<=300:=hdl
  omega) λb hb=>by show p<b;omega) ?_
 rintro _ h11 ⟨rfl,hb11,k11⟩
 rw[zB0 (by omega),zAa]
 refine hk2 _ _ ⟨i+1,by omega,rfl,?_,?_⟩ (by show l.length-(i+1)<l.length-i;omega)
 ·rw[htk,<- zBe];exact hb11
 ·exact(kh.trans (kk.mono λ_ _ h=>h.elim)).trans (k11.mono λb _ hb=>by rcases hb with hb|hb<;>omega)
theorem zAd8 {P:zA3}{H:zAw}{m:Man}{vd vc vf:Value}(hv:zMx P H m vd vc vf)(hP:∀ b,P b->b<H.size)(hd:m.deps.length<=1048576)(hc:m.conf.length<=1048576)(hO:zRp H)(hT:zYj H) :
  zAz prg zGx [.agg (zGM m vd vc vf).toArray] H λu H'=>u=(if zEy m=true then .tuple #[str (zAjr m),.int .i64 0] else .tuple #[str [],.int .i64 10])/\Keep zAK H H':=by
 apply zK6
 unfold zIW
 simp only[zB3,zBb]
 generalize hH1:H.push (.cells (zGM m vd vc vf).toArray zAg (0,0))=H1
 have k1:Keep zAK H H1:=by rw[<- hH1];exact Keep.push
 have a1:At H1 H.size (zGM m vd vc vf):=by rw[<- hH1];exact At.push
 have w:=hv.wf
 rw[zUj a1 w,zAa]
 refine zAI (zSc (hv.keep k1 λ_ _=>id) (by omega) (by omega) (hO.keep k1 λ_ h=>h.elim)) ?_
 rintro _ h2 ⟨rfl,k2⟩
 have a2:=a1.keep k2 id
 have k12:=k1.trans k2
 rw[zBa,zAa,zAl]
 cases hokG:zEy m
 ·simp only[zBa,zAf,zAe,zAO,zAU,zAv,zAl,zAa,if_true,if_false,zAb,zAc,decide_true,decide_false,reduceCtorEq,zBW,zEJ,zEK,zEG,zEH,zEI,zBm,zA8]
  exact⟨by trivial,k12⟩
 rw[if_neg (by decide)]
 simp only[zXm,zBb]
 generalize hH3:h2.push (.cells #[.pointer none,.slice none 0 0] zBZ (0,0))=h3
 have k3:Keep zAK h2 h3:=by rw[<- hH3];exact Keep.push
 generalize hp:h2.size=p at *
 have hp1:h3[p]? = some (.cells #[.pointer none,.slice none 0 0] zBZ (0,0)):=by rw[<- hH3,<- hp];exact zCh
 have hB:BAt (p < ·) p h3 []:=⟨Nat.lt_irrefl _,_,_,hp1,.inl rfl,.inl ⟨rfl,rfl⟩⟩
 have s3:h3.size=p+1:=by rw[<- hH3];simp[hp]
 have a3:=a2.keep k3 id
 have k13:=k12.trans k3
 have g1:=k1.1
 have g12:=k12.1
 have hN:NG<=p:=by have:=hT.sz;omega
 have hq:H.size<p:=by have:=a2.lt;omega
 rw[zBi,zAa,zAu,zDy a3,zAa,zBi,zAa,zAh,zJl a3 w,zAa]
 refine zAI (zWb w.ver (hT.keep k13 λ_ h=>h.elim)) ?_
 rintro _ h4 ⟨rfl,k4⟩
 have a4:=a3.keep k4 id
 refine⟨zDy a4,?_⟩
 have hpk:(Value.string ⟨#[112,97,99,107,97,103,101]⟩)=str zI7:=rfl
 simp only[hpk,zAj9,zCo]
 generalize hH5:h4.push (.cells ([zI7,m.name,zHP m.ver].map str).toArray zBJ (0,0))=h5
 have k5:Keep zAK h4 h5:=by rw[<- hH5];exact Keep.push
 have b5:At h5 h4.size ([zI7,m.name,zHP m.ver].map str):=by rw[<- hH5];exact At.push
 have hok':=(show zYV m=true by have:=hokG;unfold zEy at this;rw[zAk]at this;exact this.1)
 unfold zYV at hok'
 simp only[zAk]at hok'
 obtain⟨⟨⟨ok1,ok2⟩,ok3⟩,ok4⟩:=hok'
 have l1:=zQz ok1
 have l2:=zR3 (v:=m.ver) w.ver.p3
 refine zAI (zAcZ b5 rfl (by simp) (by simp[total,zI7];omega)) ?_
 rintro _ h6 ⟨rfl,k6⟩
 have k36:=k4.trans (k5.trans k6)
 have g3:=k36.1
 have hB6:=hB.keep k36 λ_ _=>id
 have hl0:(zUk [zI7,m.name,zHP m.ver]).length<=100:=by
  have:=zR7 (l:=[zI7,m.name,zHP m.ver])
  simp[total,zI7]at this ⊢;omega
 refine zAI (zIg hB6 (by simp;omega) λb hb=>by show p<b;omega) ?_
 rintro _ h7 ⟨rfl,hB7,k7⟩
 rw[zAX]at hB7
 have k17:Keep (p <= ·) H h7:=((k13.trans k36).mono λ_ _ h=>h.elim).trans (k7.mono λb _ hb=>by rcases hb with hb|hb<;>omega)
 have k37:Keep (p <= ·) h3 h7:=(k36.mono λ_ _ h=>h.elim).trans (k7.mono λb _ hb=>by rcases hb with hb|hb<;>omega)
 have a7:=a3.keep k37 (show ¬ p<=H.size by omega)
 have hPp:∀ b,P b->b<p:=λb hb=>by have:=hP b hb;omega
 have hPn:∀ b,P b->¬ p<=b:=λb hb=>by have:=hPp b hb;omega
 have hv7:=hv.keep k17 hPn
 obtain⟨g5,g6,g7⟩:=zG6 a7 w
 have hdw:∀ l:List Dep,zOz m.name l=true->∀ d∈l,zIp d.name=true:=λl hl d hd=>by
  unfold zOz at hl
  simp only[zAk,zAy]at hl
  have:=hl.1.1 d hd
  unfold zSN at this
  simp only[zAk]at this
  exact this.1.1
 have g77:=k37.1
 have lend:=hv7.d.len
 rw[zAd]at lend
 refine zNB (λ_ h=>BAt (p < ·) p h (zUk [zI7,m.name,zHP m.ver]++(m.deps.map (zYW zXx)).flatten)/\Keep (p <= ·) h7 h) (λk hk=>?_) ?_
 ·rw[zBi,zAa,zAh,g5,zAa,lend,zAa]
  exact zXz (w:=zXx) hv7.d hPp hB7 (by omega) w.deps (hdw _ ok3) hd (by decide) (by omega) (hO.keep k17 λb hb=>by omega) (hT.keep k17 λb hb=>by omega) hN λu h hb k=>hk u h ⟨hb,k⟩
 rintro _ h8 ⟨hB8,k8⟩
 have k18:=k17.trans k8
 have a8:=a7.keep k8 (show ¬ p<=H.size by omega)
 have hv8:=hv.keep k18 hPn
 obtain⟨g5,g6,g7⟩:=zG6 a8 w
 have lenc:=hv8.c.len
 rw[zAd]at lenc
 have hfl:=zQa (f:=zYW zXx) (n:=100) (l:=m.deps) λx hx=>zQA (by decide) (w.deps x hx) (hdw _ ok3 x hx)
 have hd':m.deps.length*100<=1048576*100:=zBs _ hd
 have g8:=k8.1
 refine zNB (λ_ h=>BAt (p < ·) p h (zAfr m)/\Keep (p <= ·) h8 h) (λk hk=>?_) ?_
 ·rw[zBi,zAa,zAh,g6,zAa,lenc,zAa]
  exact zXz (w:=zTz) hv8.c hPp hB8 (by omega) w.conf (hdw _ ok4) hc (by decide) (by rw[zAt];omega) (hO.keep k18 λb hb=>by omega) (hT.keep k18 λb hb=>by omega) hN λu h hb k=>hk u h ⟨by unfold zAfr;rw[<- zBe];exact hb,k⟩
 rintro _ h9 ⟨hB9,k9⟩
 have k19:=k18.trans k9
 have a9:=a8.keep k9 (show ¬ p<=H.size by omega)
 have hv9:=hv.keep k19 hPn
 obtain⟨g5,g6,g7⟩:=zG6 a9 w
 have lenf:=hv9.f.len
 rw[zAd]at lenf
 obtain⟨f1,f2,f3⟩:=zNe hokG
 have f4:=zUv hokG
 have hfl2:=zQa (f:=zYW zTz) (n:=100) (l:=m.conf) λx hx=>zQA (by decide) (w.conf x hx) (hdw _ ok4 x hx)
 have hc':m.conf.length*100<=1048576*100:=zBs _ hc
 have hms:(zAfr m).length<=1099511627:=by unfold zAfr;rw[zAt,zAt];omega
 refine zNB (λ_ h=>BAt (p < ·) p h (zAjr m)/\Keep (p <= ·) h9 h) (λk hk=>?_) ?_
 ·rw[zBi,zAa,zAh,g7,zAa,lenf,zAa]
  exact zAd7 hv9.f hPp hB9 (by have:=k9.1;omega) w.files (λf hf=>⟨f3 f hf,f4 f hf⟩) f1 hms (hT.keep k19 λb hb=>by omega) hN λu h hb k=>hk u h ⟨hb,k⟩
 rintro _ h9' ⟨hB9',k9'⟩
 have hmg:=zAaD w.files f3 f4 f1 hms
 refine zAI (zXn hB9' (by omega)) ?_
 rintro _ h10 ⟨rfl,k10⟩
 refine⟨by rw[if_pos trivial],?_⟩
 have kk:Keep (p <= ·) H h10:=(k19.trans k9').trans (k10.mono λb _ hb=>by omega)
 exact⟨kk.1,λi hi _=>kk.2 i hi (by omega)⟩
def zAby (m:Man):List UInt8:=if zEy m=true then zAjr m else []
theorem zX7 {m:Man}(w:∀ f∈m.files,f.wf)(hms:zEy m=true->(zAfr m).length<=1099511627):(zAby m).length<=1099611627:=by
 unfold zAby
 cases h:zEy m
 ·simp
 ·rw[if_pos rfl]
  obtain⟨f1,f2,f3⟩:=zNe h
  exact zAaD w f3 (zUv h) f1 (hms h)
theorem zAaE {m:Man}(w:m.wf)(hok:zEy m=true)(hd:m.deps.length<=1048576)(hc:m.conf.length<=1048576):(zAfr m).length<=1099511627:=by
 have hok':=(show zYV m=true by have:=hok;unfold zEy at this;rw[zAk]at this;exact this.1)
 unfold zYV at hok'
 simp only[zAk]at hok'
 obtain⟨⟨⟨ok1,ok2⟩,ok3⟩,ok4⟩:=hok'
 have l1:=zQz ok1
 have l2:=zR3 (v:=m.ver) w.ver.p3
 have hl0:(zUk [zI7,m.name,zHP m.ver]).length<=100:=by
  have:=zR7 (l:=[zI7,m.name,zHP m.ver])
  simp[total,zI7]at this ⊢;omega
 have hdw:∀ l:List Dep,zOz m.name l=true->∀ d∈l,zIp d.name=true:=λl hl d hd=>by
  unfold zOz at hl
  simp only[zAk,zAy]at hl
  have:=hl.1.1 d hd
  unfold zSN at this
  simp only[zAk]at this
  exact this.1.1
 have h1:=zQa (f:=zYW zXx) (n:=100) (l:=m.deps) λx hx=>zQA (by decide) (w.deps x hx) (hdw _ ok3 x hx)
 have h2:=zQa (f:=zYW zTz) (n:=100) (l:=m.conf) λx hx=>zQA (by decide) (w.conf x hx) (hdw _ ok4 x hx)
 unfold zAfr
 rw[zAt,zAt];omega
theorem zAd9 {P:zA3}{H:zAw}{m:Man}{vd vc vf:Value}(hv:zMx P H m vd vc vf)(hP:∀ b,P b->b<H.size)(hd:m.deps.length<=1048576)(hc:m.conf.length<=1048576)(hO:zRp H)(hT:zYj H) :
  zAz prg zGw [.agg (zGM m vd vc vf).toArray] H λu H'=>Sl (λb=>H.size<=b/\b<H'.size) H' u (zAby m)/\Keep zAK H H':=by
 apply zK3
 unfold zIS
 simp only[zB3,zBb]
 generalize hH1:H.push (.cells (zGM m vd vc vf).toArray zAg (0,0))=H1
 have k1:Keep zAK H H1:=by rw[<- hH1];exact Keep.push
 have a1:At H1 H.size (zGM m vd vc vf):=by rw[<- hH1];exact At.push
 have w:=hv.wf
 have hln:=zX7 w.files λh=>zAaE w h hd hc
 rw[zUj a1 w,zAa]
 refine zAI (zAd8 (hv.keep k1 λ_ _=>id) (λb hb=>zAN (hP b hb) k1.1) hd hc (hO.keep k1 λ_ h=>h.elim) (hT.keep k1 λ_ h=>h.elim)) ?_
 rintro _ h2 ⟨rfl,k2⟩
 have k02:=k1.trans k2
 have g02:=k02.1
 obtain⟨e,he⟩:∃ e,(if zEy m=true then Value.tuple #[str (zAjr m),.int .i64 0] else .tuple #[str [],.int .i64 10]) = .tuple #[str (zAby m),e]:=by
  unfold zAby
  cases zEy m
  ·exact⟨_,rfl⟩
  ·exact⟨_,rfl⟩
 have x0:∀ a b:Value,zE2 0 (.tuple #[a,b])=some a:=λ_ _=>rfl
 have x1:∀ a b:Value,zE2 1 (.tuple #[a,b])=some b:=λ_ _=>rfl
 rw[he,x0,zAa,x1,zAa]
 refine zAh8 (by omega) λv h3 hs k3=>?_
 have hk:=k02.trans k3
 refine⟨⟨hs.bs,hs.sl,λb hb=>?_⟩,hk⟩
 have e2:=hs.own b hb
 subst e2
 refine⟨g02,?_⟩
 rcases hs.cases with ⟨a,c,rfl,_⟩|⟨b',o,c,cs,T,f,rfl,_,_,hb',_⟩
 ·cases a<;>simp[blk]at hb
 ·have:=lt_of hb'
  obtain⟨rfl,_⟩:=zHZ hb
  exact this
structure zUB (P:zA3)(H:zAw)(v:Value)(mv:List MV):Prop where
 h:SlE 8 P H v (mv.map mvC)
 m:∀ x∈mv,zMx P H x.1 x.2.1 x.2.2.1 x.2.2.2
 hl:mv.length<=9223372036854775807
theorem zUB.keep {P S:zA3}{H H':zAw}{v:Value}{mv:List MV}(h:zUB P H v mv)(k:Keep S H H')(hs:∀ b,P b->¬ S b):zUB P H' v mv:=⟨h.h.keep k hs,λx hx=>(h.m x hx).keep k hs,h.hl⟩
def zUC (x:MV):Prop:=x.1.name.length<=50/\x.1.ver.pre.length<=50/\x.1.deps.length<=8/\x.1.conf.length<=8/\x.1.files.length<=8
def zTl (mv:List MV):Prop:=∀ x∈mv,zUC x
theorem zUB.to {P:zA3}{H:zAw}{v:Value}{mv:List MV}(h:zUB P H v mv)(hs:zTl mv):zNj P H v mv:=⟨h.h,h.m,λx hx=>by have:=hs x hx;unfold zUC at this;omega⟩
theorem zUB.len {P:zA3}{H:zAw}{v:Value}{mv:List MV}(h:zUB P H v mv):zDp v=some (.int .i64 (mv.length:Nat)):=by have:=h.h.len;rwa [zAd]at this
theorem zIq {α β:Type}{f:α->β}{l:List α}{i:Nat}{x:α}(h:l[i]? = some x):(l.map f)[i]? = some (f x):=by rw[zAr,h];rfl
theorem zAea {n m:Nat}:zAB .no .gtr (.int .i64 (n:Nat)) (.int .i64 ((m:Nat):Int))=some (.bool (decide (n > m))):=zAbQ
theorem zQj {α:Type}{l:List α}{i:Nat}(h:i<l.length):∃ x,l[i]? = some x/\x∈l:=⟨l[i],zAj h,zAH h⟩
theorem zAf2 {α:Type}{l:List α}{p:α->Prop}(h:∀ x∈l.take l.length,p x):∀ x∈l,p x:=by rwa [zBA]at h
theorem zAeb {α:Type}{l:List α}{i:Nat}{x:α}{p:α->Prop}(hx:l[i]? = some x)(h:∀ y∈l.take i,p y)(hp:p x):∀ y∈l.take (i+1),p y:=by
 intro y hy
 rw[zAF,hx]at hy
 rcases zAs.1 hy with hy|hy
 ·exact h y hy
 ·obtain rfl:y=x:=by simpa using hy
  exact hp
theorem zX8 {P:zA3}{H:zAw}{v:Value}{mv:List MV}{most:Nat}(hp:zUB P H v mv) :
  zAz prg zD4 [v,.int .i64 (most:Nat)] H λu H'=>(∃ b,u = .bool b/\(b=true->zTl mv/\mv.length<=most))/\Keep No H H':=by
 apply zMp
 unfold zKA
 refine range_i hp.len (λi h=>(∀ x∈mv.take i,zUC x)/\Keep No H h) (λh=>zTl mv/\Keep No H h) ⟨by simp,Keep.refl⟩ (λh hI=>⟨zAf2 hI.1,hI.2⟩) ?_ ?_
 rotate_left
 ·rintro _ h ⟨hs,k⟩
  rw[hp.len,zAa,zY7,zAa]
  exact⟨⟨_,rfl,λe=>⟨hs,of_decide_eq_true e⟩⟩,k⟩
 rintro i h hlt ⟨hall,kh⟩ k1 k3 _ hk3
 obtain⟨x,hx,hm⟩:=zQj hlt
 have hmx:=hp.m x hm
 have w:=hmx.wf
 refine zAnk (λh'=>zUC x/\Keep No h h') (λk5 hk5=>?_) ?_
 rotate_left
 ·rintro _ _ _ _ _ h' ⟨hs,k'⟩
  exact zJB hlt hp.hl (hk3 _ ⟨zAeb hx hall hs,kh.trans k'⟩)
 refine zAbU (hp.keep kh λ_ _=>id).h (zIq hx) zLF (zBH zN6) λh8 a8 k8=>?_
 have bad:(∃ b,Value.bool false = .bool b/\(b=true->zTl mv/\mv.length<=most))/\Keep No H h8:=⟨⟨_,rfl,λe=>by cases e⟩,kh.trans k8⟩
 have a8':At h8 h.size (zGM x.1 x.2.1 x.2.2.1 x.2.2.2):=a8
 obtain⟨g5,g6,g7⟩:=zG6 a8' w
 have l1:=(hmx.d.keep (kh.trans k8) λ_ _=>id).len
 have l2:=(hmx.c.keep (kh.trans k8) λ_ _=>id).len
 have hf:=(hmx.keep (kh.trans k8) λ_ _=>id).f
 have l3:=hf.len
 rw[zAd]at l1 l2 l3
 have b8:∀ n:Nat,zAB .no .gtr (.int .i64 (n:Nat)) (.int .i64 8)=some (.bool (decide (n > 8))):=λn=>zAea (m:=8)
 have b50:∀ n:Nat,zAB .no .gtr (.int .i64 (n:Nat)) (.int .i64 50)=some (.bool (decide (n > 50))):=λn=>zAea (m:=50)
 simp only[zBi,zAh,zAu,zAa,zDy a8',zAin a8' w,g5,g6,g7,l1,l2,l3,zFb,b8,b50]
 refine zLK (λq=>zLK (λ_=>zLK (λ_=>zLK (λ_=>zJJ rfl bad) nofun) nofun) nofun) λq1=>?_
 refine zLK (λq=>zLK (λ_=>zLK (λ_=>zJJ rfl bad) nofun) nofun) λq2=>?_
 refine zBo g5 (zBo l1 (zBo (b8 _) ?_))
 refine zLK (λq=>zLK (λ_=>zJJ rfl bad) nofun) λq3=>?_
 refine zBo g6 (zBo l2 (zBo (b8 _) ?_))
 refine zLK (λq=>zJJ rfl bad) λq4=>?_
 refine zBo g7 (zBo l3 (zBo (b8 _) (zO3 (λ_=>bad) λq5=>?_)))
 have hs1:zUC x:=by
  rw[decide_eq_false_iff_not]at q1 q2 q3 q4 q5
  unfold zUC;omega
 refine zBo g7 (zBo l3 (zAkE (λ_ h'=>Keep No h8 h') Keep.refl (λh' k'=>hk5 _ _ _ _ _ _ ⟨hs1,k8.trans k'⟩) ?_))
 intro j h' hj k' k17 hk17
 obtain⟨f,hfx,hfm⟩:=zQj hj
 have wf:=w.files f hfm
 refine zAbU (hf.keep k' λ_ _=>id) (zIq hfx) zAc1 (zDP zWp) λh9 a9 k9=>?_
 have k09:=(kh.trans k8).trans (k'.trans k9)
 have bad:(∃ b,Value.bool false = .bool b/\(b=true->zTl mv/\mv.length<=most))/\Keep No H h9:=⟨⟨_,rfl,λe=>by cases e⟩,k09⟩
 have f1:ld1 h9 (Ptr h'.size 0)=some (str f.name):=zAim a9.pt
 have f2:ld1 h9 (Ptr h'.size 33)=some (.int .i64 f.size):=by have:=zYX a9.pt wf;rwa [zAh]at this
 have e80:zAB .no .gtr (.int .i64 (f.name.length:Nat)) (.int .i64 80)=some (.bool (decide (f.name.length > 80))):=zAea (m:=80)
 have e3:zAB .no .gtr (.int .i64 f.size) (.int .i64 300)=some (.bool (decide (f.size > 300))):=by rw[zAJ];rfl
 simp only[zBi,zAh,zAu,zAa,f1,zFb,e80]
 refine zLK (λq=>zJJ rfl bad) λq1=>zBo f2 (zBo e3 (zO3 (λ_=>bad) λq2=>?_))
 exact zJB hj (by have:=hs1.2.2.2.2;omega) (hk17 _ (k'.trans k9))
end Go.Proofs.YticdfkoncnnmmaaGreatDoor
