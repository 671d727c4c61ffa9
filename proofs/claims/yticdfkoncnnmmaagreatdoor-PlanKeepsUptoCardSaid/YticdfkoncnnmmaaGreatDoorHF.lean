import Derived.Test.YticdfkoncnnmmaaGreatDoorHE
import Derived.Test.YticdfkoncnnmmaaGreatDoorGO
import Derived.Test.YticdfkoncnnmmaaGreatDoorGI
import Derived.Test.YticdfkoncnnmmaaGreatDoorH9
import Derived.Test.YticdfkoncnnmmaaGreatDoorG6
import Derived.Test.YticdfkoncnnmmaaGreatDoorG1
import Derived.Test.YticdfkoncnnmmaaGreatDoorHB
set_option linter.unusedSimpArgs false
set_option linter.unusedVariables false
set_option maxRecDepth 100000
namespace Go.Proofs.YticdfkoncnnmmaaGreatDoor
open Go.X Go.X.Diff Go.MapKept
def zWk (nm:List UInt8)(ds:List Dep):Man:=⟨nm,⟨[1,0,0],[]⟩,ds,[],[]⟩
def zMi (n:List UInt8):Dep:=⟨n,⟨[42],zED⟩⟩
theorem zYJ {n:List UInt8}(h:n.length<=9223372036854775807):(zMi n).wf:=⟨⟨zGy,by simp[zMi]⟩,h⟩
theorem zU1 {nm:List UInt8}{ds:List (List UInt8)}(h:nm.length<=9223372036854775807)(hd:∀ d∈ds,d.length<=9223372036854775807):(zWk nm (ds.map zMi)).wf :=
 ⟨h,⟨rfl,by simp[zWk]⟩,λd h=>by
  obtain⟨n,hn,rfl⟩:=zAo.1 h
  exact zYJ (hd n hn),(λd h=>absurd h (by simp[zWk])),(λd h=>absurd h (by simp[zWk]))⟩
theorem zAiK {nm:List UInt8}:zCP prg zAg [(0,str nm),(1,.agg (zEt ⟨[1,0,0],[]⟩).toArray)]=some (.agg (mvC (zWk nm [],zCp,zCp,zCp)).toArray):=by kernel_rfl
set_option maxHeartbeats 1000000 in
theorem zU2 {P:zAY}{H:zAw}{nm:List UInt8}{v:Value}{ds:List (List UInt8)}(hT:zZT H)(hn:nm.length<=9223372036854775807)(hd:∀ d∈ds,d.length<=9223372036854775807)(hv:SlE 1 P H v (zQA ds))(hl:ds.length<=1000) :
  zAA prg zER [str nm,str [49,46,48,46,48],v] H λu H'=>(∃ vd,u = .agg (mvC (zWk nm (ds.map zMi),vd,zCp,zCp)).toArray/\BufE 6 (λb=>H.size<=b/\b<H'.size) H' vd ((ds.map zMi).map zE7))/\Keep zAK H H':=by
 apply zLV
 unfold zKx
 simp only[zJL,zBd]
 generalize hH1:H.push (.cells (zGU ⟨[],zED,[],[],[]⟩ zCp zCp zCp).toArray zAg (0,0))=H1
 have k1:Keep zAK H H1:=by rw[<- hH1];exact Keep.push
 have a1:At H1 H.size (zGU ⟨[],zED,[],[],[]⟩ zCp zCp zCp):=by rw[<- hH1];exact At.push
 have l1:=a1.lt
 have T1:=hT.keep k1 λ_ h=>h.elim
 refine zAM (zAga T1.err T1.pow (by simp)) ?_
 rintro u h2 ⟨hR,k2⟩
 have hvw:(⟨[1,0,0],[]⟩:Ver).wf:=⟨rfl,by simp⟩
 have hok:zFU ⟨[1,0,0],[]⟩=true:=by decide +kernel
 have hs:zLw ⟨[1,0,0],[]⟩=[49,46,48,46,48]:=by decide +kernel
 obtain rfl:u=Value.tuple #[.agg (zEt ⟨[1,0,0],[]⟩).toArray,.int .i64 0]:=by
  rcases hR with ⟨v',hww,ho,hs',rfl⟩|⟨hno,rfl⟩
  ·rw[show v'=⟨[1,0,0],[]⟩ from zAdh hww.p3 hvw.p3 ho hok (by rw[hs',hs])]
  ·exact absurd hs (hno ⟨[1,0,0],[]⟩ hvw.p3 hok)
 have x0:∀ a b:Value,zE3 0 (.tuple #[a,b])=some a:=λ_ _=>rfl
 have x1:∀ a b:Value,zE3 1 (.tuple #[a,b])=some b:=λ_ _=>rfl
 rw[x0,zAa,x1,zAa]
 have zv:zBF prg zAQ=some (zEt zED).toArray:=by kernel_rfl
 simp only[zv,zBd]
 generalize hH3:h2.push (.cells (zEt zED).toArray zAQ (0,0))=h3
 have k3:Keep zAK h2 h3:=by rw[<- hH3];exact Keep.push
 have a3:At h3 h2.size (zEt zED):=by rw[<- hH3];exact At.push
 obtain⟨h4,st4,a4,k4⟩:=a3.st (n:=4) (ds:=zEt ⟨[1,0,0],[]⟩) (zDE zGy) (zDE hvw) zLv
 have k24:Keep zAK h2 h4:=k3.fresh k4 λb hb=>by omega
 have k14:=k2.trans k24
 have g14:=k14.1
 rw[st4,zA0,a4.ldN (zDE hvw),zAa,zAiK,zAa]
 generalize hH5:h4.push (.cells (zGU ⟨[],zED,[],[],[]⟩ zCp zCp zCp).toArray zAg (0,0))=h5
 have k5:Keep zAK h4 h5:=by rw[<- hH5];exact Keep.push
 have a5:At h5 h4.size (zGU ⟨[],zED,[],[],[]⟩ zCp zCp zCp):=by rw[<- hH5];exact At.push
 have s5:h5.size=h4.size+1:=by rw[<- hH5];simp
 have w0:∀ i,(zWk nm ((ds.take i).map zMi)).wf:=λi=>zU1 hn λd h=>hd d (zBR h)
 have mone:∀ {m:Man} {t:Value},t.oneCell'=true->∀ c∈mvC (m,t,zCp,zCp),c.oneCell'=true:=λht c hc=>by
  rcases zAp.1 hc with rfl|hc
  ·rfl
  rcases zAr.1 hc with hc|hc
  ·exact zLv c hc
  ·simp only[zAp,zCO,or_false]at hc
   rcases hc with rfl|rfl|rfl
   ·exact ht
   ·rfl
   ·rfl
 obtain⟨h6,st6,a6,k6⟩:=a5.st (n:=8) (ds:=mvC (zWk nm [],zCp,zCp,zCp)) (zBI zMh) (zBI (w0 0)) (mone rfl)
 have k46:Keep zAK h4 h6:=k5.fresh k6 λb hb=>by omega
 have k16:=k14.trans k46
 have g6:=k6.1
 rw[st6,zA0]
 have hlen:=hv.len
 rw[zQB]at hlen
 let I:Nat->zAw->Prop:=λi h=>∃ t,At h h4.size (mvC (zWk nm ((ds.take i).map zMi),t,zCp,zCp))/\BufE 6 (λb=>h6.size<=b/\b<h.size) h t (((ds.take i).map zMi).map zE7)/\Keep (· = h4.size) h6 h
 refine zOd (λ_ h=>I ds.length h) (λk7 hk7=>?_) ?_
 rotate_left
 ·rintro _ h8 ⟨t,a8,b8,k8⟩
  have w8:=w0 ds.length
  rw[zAs (zAi _)]at a8 b8 w8
  have k18:Keep zAK H1 h8:=k16.fresh k8 λb e=>by omega
  obtain⟨h14,st14,a14,k14'⟩:=(a1.keep k18 id).st (n:=8) (ds:=mvC (zWk nm (ds.map zMi),t,zCp,zCp)) (zBI zMh) (zBI w8) (mone b8.sl.oneC)
  rw[a8.ldN (zBI w8),zAa,st14,zA0,a14.ldN (zBI w8),zAa]
  have g14':=k14'.1
  have g16:=k16.1
  have g1:=k1.1
  exact⟨⟨t,rfl,(b8.keep k14' λb hb=>by omega).mono λb hb=>by omega⟩,(k1.trans k18).fresh k14' λb e=>by omega⟩
 rw[hlen,zAa]
 refine zKl (λw h=>∃ i:Nat,i<=ds.length/\w = .int .i64 (i:Nat)/\I i h) (λw _=>match w with | .int _ t=>ds.length-t.toNat|_=>0) ⟨0,zAz _,rfl,zCp,a6,BufE.nil,Keep.refl⟩ ?_
 rintro _ h10 ⟨i,hi,rfl,t,a10,b10,k10⟩ k9 hk9
 have g10:=k10.1
 rw[zOn,zAa,zAl]
 by_cases hlt:i<ds.length
 rotate_left
 ·rw[if_neg (by simpa using hlt)]
  obtain rfl:i=ds.length:=by omega
  exact hk7 _ _ ⟨t,a10,b10,k10⟩
 rw[if_pos (by simpa using hlt)]
 have hg:ds[i]? = some ds[i]:=zAj hlt
 have hm:=zAE hlt
 generalize ds[i]=d at *
 have hdl:=hd d hm
 have k010:Keep zAK H h10:=(k1.trans k16).fresh k10 λb e=>by have:=k1.1;omega
 obtain⟨b,o,hix,hpt,_⟩:=(hv.keep k010 λ_ _=>id).at (i:=i) (x:=[str d]) (by simpa [zHn] using hg)
 have s42:(Value.string ⟨#[42]⟩)=str [42]:=rfl
 simp only[zBk,zAh,zAa]
 rw[hix .i64,zAa,hpt.cell0 rfl,zAa,(zHT a10 (w0 i)).1,zAa,s42,b_W,zAa]
 show Mpu (zCP prg zAH [(0,str (zMi d).name),(1,.agg (zEQ (zMi d).want).toArray)]) _
 have hds:=zYJ hdl
 rw[zAb6 hds,zAa,zSe hds,zCD]
 have hr:=zNW (x:=zE7 (zMi d)) (T:=zAH) (h:=h10) (n:=6) (zEa hds) zLx
 have kp:Keep zAK h10 (h10.push (.cells (zE7 (zMi d)).toArray zAH (0,0))):=Keep.push
 have gp:=kp.1
 have htl:(ds.take i).length=i:=by rw[zBe];omega
 refine((b10.keep kp λ_ _=>id).mono (G:=λb=>h6.size<=b) λb hb=>hb.1).app hr (by omega) (by rw[zAf,zAf,zBb];omega) (by show h6.size<=_;omega) λt' h12 b12 k12=>?_
 have g12:=k12.1
 have hv4:=zDE hvw
 obtain⟨h13,st13,a13,k13⟩:=((a10.keep kp id).keep k12 λe=>by omega).st1 (i:=5) (v:=t') (by have:(mvC (zWk nm ((ds.take i).map zMi),t,zCp,zCp)).length=8:=zBI (w0 i);omega) b12.sl.oneC
 have hts:ds.take (i+1)=ds.take i++[d]:=by rw[zAJ,hg];rfl
 rw[st13,zA0,zBU (by omega),zAa]
 refine hk9 _ _ ⟨i+1,by omega,rfl,t',?_,?_,?_⟩ (by show ds.length-(i+1)<ds.length-i;omega)
 ·have e:(mvC (zWk nm ((ds.take i).map zMi),t,zCp,zCp)).set 5 t'=mvC (zWk nm ((ds.take (i+1)).map zMi),t',zCp,zCp):=by simp[mvC,zGU,zWk,List.set_append,hv4,zEt]
  rw[e]at a13;exact a13
 ·rw[hts,zAN,zAN]
  have g13:=k13.1
  exact((BufE.re b12 (G:=λb=>h6.size<=b/\b<h12.size) λb h1 h2=>⟨h2,h1⟩).keep k13 λb hb e=>by omega).mono λb hb=>by omega
 ·exact((k10.trans (kp.mono λ_ _ h=>h.elim)).fresh' k12 λb hb => .inr hb).trans k13
def kA:Man:=zWk [97] ([].map zMi)
def kB:Man:=zWk [98] ([[99]].map zMi)
def kC:Man:=zWk [99] ([].map zMi)
def k1P:Pk:=(kB,[])
def k2P:Pk:=(kC,[])
def zAcx:zOW:=⟨1,[98],⟨[42],zED⟩,9⟩
theorem zAgT:zAcx.wf:=⟨by simp[zAcx],⟨zGy,by simp[zAcx]⟩⟩
theorem zAfd:zZz [] k1P=0/\zRZ [] k1P=[k1P]:=by
 have h:zXn k1P=true:=by decide +kernel
 exact⟨by unfold zZz;rw[h];rfl,by unfold zRZ;rw[h];rfl⟩
theorem zAfe:zZz [k1P] k2P=0/\zRZ [k1P] k2P=[k1P,k2P]:=by
 have h:zXn k2P=true:=by decide +kernel
 have h2:[k1P].find? (zJM k2P.1.name k2P.1.ver)=none:=by
  rw[zCV]
  intro x hx
  rw[zAI.1 hx]
  decide +kernel
 exact⟨by unfold zZz;rw[h,h2];rfl,by unfold zRZ;rw[h,h2];rfl⟩
def kHv:List Man:=[kA,kB,kC]
def kWs:List Dep:=[⟨[98],⟨[42],zED⟩⟩,⟨[97],⟨[61],⟨[1,0,0],[]⟩⟩⟩]
theorem zAgU:zEE [kA]=true:=by decide +kernel
theorem zAkd:zP3 zAcx=true:=by decide +kernel
theorem zAgV:zEd [kA] [k1P,k2P]=kHv:=by
 have h1:zXp [kA] kB=true:=by decide +kernel
 have h2:zXp [kA] kC=true:=by decide +kernel
 unfold zEd
 show [kA]++[kB,kC].filter (zXp [kA])=_
 rw[zCc,h1,zCc,h2];rfl
theorem zAgW:zOX [kA] zAcx.name zAcx.want=kWs:=rfl
theorem zAlj:zHJ kHv kWs 9=true:=by decide +kernel
theorem zAke:Run kHv 9 (.sol [] kWs) 0 (.ok [1,0,2]) 3:=by
 have e1:zOR kHv ⟨[98],⟨[42],zED⟩⟩=[1]:=by decide +kernel
 have e2:zOR kHv ⟨[97],⟨[61],⟨[1,0,0],[]⟩⟩⟩=[0]:=by decide +kernel
 have e3:zOR kHv (zMi [99])=[2]:=by decide +kernel
 refine Run.go (d:=⟨[98],⟨[42],zED⟩⟩) (ws:=[⟨[97],⟨[61],⟨[1,0,0],[]⟩⟩⟩]) (by decide +kernel) ?_
 rw[e1]
 refine Run.down (by decide) (by decide +kernel) ?_ (by simp)
 refine Run.go (d:=⟨[97],⟨[61],⟨[1,0,0],[]⟩⟩⟩) (ws:=[zMi [99]]) (by decide +kernel) ?_
 rw[e2]
 refine Run.down (by decide) (by decide +kernel) ?_ (by simp)
 refine Run.go (d:=zMi [99]) (ws:=[]) (by decide +kernel) ?_
 rw[e3]
 refine Run.down (by decide) (by decide +kernel) ?_ (by simp)
 exact Run.done
theorem zAd3:(zFN kHv [1,0,2]).map (gM kHv)=kHv:=by
 have h:zFN kHv [1,0,2]=[0,1,2]:=by decide +kernel
 rw[h];rfl
theorem zAiL:zEE kHv=true:=by decide +kernel
theorem zAiM:[kA].filter (λm=>!zHU kHv m)=[]:=by
 have h:zHU kHv kA=true:=by decide +kernel
 rw[zCc,h];rfl
theorem zAkf:(kHv.filter λm=>!zHU [kA] m)=[kB,kC]:=by
 have h1:zHU [kA] kA=true:=by decide +kernel
 have h2:zHU [kA] kB=false:=by decide +kernel
 have h3:zHU [kA] kC=false:=by decide +kernel
 unfold kHv
 rw[zCc,h1,zCc,h2,zCc,h3];rfl
theorem zAiN {x:MV}(h:x.1.wf):zCP prg zA4 [(0,.agg (mvC x).toArray)]=some (.agg (pvC (x,zCp,[])).toArray):=by
 have k:zMN prg zA4=some ([(0,8),(8,1)],(pvC zPW).toArray):=by kernel_rfl
 obtain⟨a,b,c,e⟩:=Ver.cases3 h.ver
 obtain⟨⟨n,⟨p,pre⟩,d1,d2,d3⟩,v1,v2,v3⟩:=x
 simp only at e
 subst e
 rw[zJa k];rfl
theorem zAgX:zCP prg zE4 [(0,.int .i64 1),(1,str [98]),(2,.agg (zEQ ⟨[42],zED⟩).toArray),(3,.int .i64 9)]=some (.agg (zQX zAcx).toArray):=by kernel_rfl
theorem zAkg {s:List UInt8}:zID prg zBW 1 [(0,str s)]=some #[str s]:=zAjA
set_option maxHeartbeats 2000000 in
theorem zWl {H:zAw}(hT:zZT H)(hS:zTl H):zAA prg zDe [] H λu H'=>u = .bool true/\Keep zAK H H':=by
 apply zLr
 unfold zJD
 have hNG:NG<=H.size:=hS.sz
 have s97:(Value.string ⟨#[97]⟩)=str [97]:=rfl
 have s98:(Value.string ⟨#[98]⟩)=str [98]:=rfl
 have s99:(Value.string ⟨#[99]⟩)=str [99]:=rfl
 have sv1:(Value.string ⟨#[49,46,48,46,48]⟩)=str [49,46,48,46,48]:=rfl
 have s42:(Value.string ⟨#[42]⟩)=str [42]:=rfl
 rw[s97,s98,s99,sv1,s42]
 have pn:∀ x,zAB .ptr .eql (Ptr x 0) (.pointer none)=some (.bool false):=λx=>rfl
 have ne0:∀ n:Int,zAB .no .neq (.int .i64 n) (.int .i64 0)=some (.bool (!decide (n=0))):=λn=>neI
 refine zAM zWg ?_
 rintro _ h1 ⟨rfl,q1,k1⟩
 have g1:=k1.1
 rw[pn,zAa]
 refine zDu rfl ?_
 rw[zAkg,zCD]
 have hr:=zNW (x:=[str [99]]) (T:=zBW) (h:=h1) (n:=1) rfl (λc hc=>by rw[zAI.1 hc];rfl)
 have k3:Keep zAK h1 (h1.push (.cells [str [99]].toArray zBW (0,0))):=Keep.push
 generalize h1.push (.cells [str [99]].toArray zBW (0,0))=h3 at *
 have k03:=k1.trans k3
 refine zAM (zU2 (nm:=[98]) (ds:=[[99]]) (hT.keep k03 λ_ h=>h.elim) (by simp) (by simp) hr (by simp)) ?_
 rintro _ h4 ⟨⟨vd,rfl,bd⟩,k4⟩
 have k04:=k03.trans k4
 have g04:=k04.1
 have g34:=k03.1
 have wB:kB.wf:=zU1 (by simp) (by simp)
 have wC:kC.wf:=zU1 (by simp) (by simp)
 have wA:kA.wf:=zU1 (by simp) (by simp)
 let xB:PW:=((kB,vd,zCp,zCp),zCp,[])
 have hxB:zAdW (λb=>h3.size<=b/\b<h4.size) h4 xB:=⟨⟨bd.sl,SlE.nil,SlE.nil,wB⟩,⟨SlE.nil,λx hx=>(by cases hx)⟩,(by decide:kB.deps.length<=1000),(by decide:kB.conf.length<=1000),(by decide:kB.files.length<=1000)⟩
 show Mpu (zCP prg zA4 [(0,.agg (mvC xB.1).toArray)]) _
 rw[zAiN (x:=xB.1) wB,zAa]
 have q4:=(q1.keep k3 λ_ _=>id).keep k4 λ_ _=>id
 refine zAM (zAgN (x:=xB) q4 hxB (λb hb=>hb.2) (by simp) (hT.keep k04 λ_ h=>h.elim).ops (hS.keep k04 λ_ h=>h.elim)) ?_
 rintro _ h5 ⟨rfl,⟨R5,q5,hR5⟩,k5⟩
 have k05:Keep zAK H h5:=k04.fresh k5 λb e=>by omega
 have g5:=k5.1
 have ep:zLy xB=k1P:=rfl
 rw[ep,zAfd.1,ne0,zAa]
 rw[ep,zAfd.2]at q5
 rw[zAt,if_neg (by decide),zAa]
 refine zDu rfl ?_
 refine zAM (zU2 (P:=λ_=>False) (nm:=[99]) (ds:=[]) (hT.keep k05 λ_ h=>h.elim) (by simp) (by simp) SlE.nil (by simp)) ?_
 rintro _ h8 ⟨⟨vd2,rfl,bd2⟩,k8⟩
 have k08:=k05.trans k8
 have g8:=k8.1
 let xC:PW:=((kC,vd2,zCp,zCp),zCp,[])
 have hxC:zAdW (λb=>h5.size<=b/\b<h8.size) h8 xC:=⟨⟨bd2.sl,SlE.nil,SlE.nil,wC⟩,⟨SlE.nil,λx hx=>(by cases hx)⟩,(by decide:kC.deps.length<=1000),(by decide:kC.conf.length<=1000),(by decide:kC.files.length<=1000)⟩
 show Mpu (zCP prg zA4 [(0,.agg (mvC xC.1).toArray)]) _
 rw[zAiN (x:=xC.1) wC,zAa]
 refine zAM (zAgN (x:=xC) (q5.keep k8 λ_ _=>id) hxC (λb hb=>hb.2) (by simp) (hT.keep k08 λ_ h=>h.elim).ops (hS.keep k08 λ_ h=>h.elim)) ?_
 rintro _ h9 ⟨rfl,⟨R9,q9,hR9⟩,k9⟩
 have k09:Keep zAK H h9:=k08.fresh k9 λb e=>by
  rcases hR5 b e with e|e<;>omega
 have g9:=k9.1
 have ep2:zLy xC=k2P:=rfl
 rw[ep2,zAfe.1,ne0,zAa]
 rw[ep2,zAfe.2]at q9
 rw[zAt,if_neg (by decide),zAa]
 refine zDu rfl ?_
 refine zAM (zQO q9) ?_
 rintro _ _ ⟨rfl,rfl⟩
 have n2:zAB .no .neq (.int .i64 (([k1P,k2P].length:Nat):Int)) (.int .i64 2)=some (.bool false):=rfl
 rw[n2,zAa]
 show Mpu (zBy (.bool false) (.bool true) (.bool false)) _
 rw[zAt,if_neg (by decide),zAa,zAl,if_neg (by decide)]
 refine zAM (zU2 (P:=λ_=>False) (nm:=[97]) (ds:=[]) (hT.keep k09 λ_ h=>h.elim) (by simp) (by simp) SlE.nil (by simp)) ?_
 rintro _ h14 ⟨⟨vd3,rfl,bd3⟩,k14⟩
 have k014:=k09.trans k14
 have g14:=k14.1
 have g09:=k09.1
 let xA:MV:=(kA,vd3,zCp,zCp)
 have hmA:zL6 (λb=>h9.size<=b/\b<h14.size) h14 kA vd3 zCp zCp:=⟨bd3.sl,SlE.nil,SlE.nil,wA⟩
 show zFv h14 zAg 1 (zID prg zAg 1 [(0,.agg (mvC xA).toArray)]) _
 rw[zRt (zBI wA),zCD]
 have hrA:=zNW (x:=mvC xA) (T:=zAg) (h:=h14) (n:=8) (zBI wA) (zGV (x:=xA) hmA)
 have k15:Keep zAK h14 (h14.push (.cells (mvC xA).toArray zAg (0,0))):=Keep.push
 have s15:(h14.push (.cells (mvC xA).toArray zAg (0,0))).size=h14.size+1:=by simp
 generalize h14.push (.cells (mvC xA).toArray zAg (0,0))=h15 at *
 have k015:=k014.trans k15
 have hp:zNz (λb=>h9.size<=b/\b<h15.size) h15 (.slice (some ⟨h14.size,0,none⟩) 1 1) [xA]:=⟨hrA.mono λb hb=>by omega,λx hx=>by
  rw[zAI.1 hx]
  exact(hmA.keep k15 λ_ _=>id).mono λb hb=>by omega,λx hx=>by rw[zAI.1 hx];exact⟨(by decide:kA.deps.length<=1000),(by decide:kA.conf.length<=1000)⟩⟩
 rw[b_W,zAa,zAgX,zAa]
 refine zAM (zAgS hp ((q9.keep k14 λ_ _=>id).keep k15 λ_ _=>id) (λb hb=>hb.2) zAgT rfl (by simp) (hT.keep k015 λ_ h=>h.elim).ops (by have:=k015.1;omega)) ?_
 rintro u h16 ⟨hu,k16⟩
 have k016:=k015.trans k16
 have hin:zCq [xA]=[kA]:=rfl
 rw[hin]at hu
 have good:(zEE [kA]&&zP3 zAcx)=true:=by rw[zAgU,zAkd];rfl
 have hno:[kA].find? (λm=>decide (m.name=zAcx.name))=none:=by decide +kernel
 obtain⟨n0,z,col,d,s,t,dr,ad,af,rfl,hz,hc,e1,e2,e3⟩:∃ n0 z col d s t dr ad af,u = .tuple #[.agg (chC 1 d s t).toArray,.int .i64 0]/\h15.size<=z/\ChI n0 z 1 col d s t dr ad af h16/\dr.length=0/\ad.length=2/\af.length=3:=by
  rcases hu with ⟨h,_⟩|⟨_,⟨h,_⟩|⟨_,h⟩⟩
  ·rw[good]at h;cases h
  ·rw[hno]at h;cases h
  ·rw[zAgV,zAgW]at h
   rcases h with ⟨h,_⟩|⟨_,r,st,hrun,h⟩
   ·rw[show zAcx.bound=9 from rfl,zAlj]at h;cases h
   ·obtain⟨rfl,rfl⟩:=Run.det hrun zAke
    simp only at h
    rw[zAd3]at h
    rcases h with ⟨h,_⟩|⟨_,n0,z,col,d,s,t,dr,ad,af,rfl,h2,h3,h4,h5,h6⟩
    ·rw[zAiL]at h;cases h
    ·rw[zAiM]at h4
     rw[zAkf]at h5
     refine⟨n0,z,col,d,s,t,dr,ad,af,rfl,h2,h3,?_,?_,?_⟩
     ·have:=congrArg List.length h4;simpa using this
     ·have:=congrArg List.length h5;simpa using this
     ·have:=congrArg List.length h6;simpa [kHv] using this
 have x0:∀ a b:Value,zE3 0 (.tuple #[a,b])=some a:=λ_ _=>rfl
 have x1:∀ a b:Value,zE3 1 (.tuple #[a,b])=some b:=λ_ _=>rfl
 rw[x0,zAa,x1,zAa]
 simp only[zSh,zBd]
 generalize hH17:h16.push (.cells (chC 0 zCp zCp zCp).toArray zB6 (0,0))=h17
 have k17:Keep zAK h16 h17:=by rw[<- hH17];exact Keep.push
 have a17:At h17 h16.size (chC 0 zCp zCp zCp):=by rw[<- hH17];exact At.push
 obtain⟨h18,st18,a18,k18⟩:=a17.st (n:=4) (ds:=chC 1 d s t) rfl rfl (zP4 hc.bd.sl.oneC hc.bs.sl.oneC hc.bt.sl.oneC)
 have g016:=k016.1
 have k018:=(k016.trans k17).fresh k18 λb e=>by omega
 have ls:=hc.bs.sl.len
 have ld:=hc.bd.sl.len
 have lt:=hc.bt.sl.len
 rw[zAf,e2]at ls
 rw[zAf,e1]at ld
 rw[zAf,e3]at lt
 simp only[zBk,zAh,zAa]
 rw[st18,zA0]
 have z0:zAB .no .eql (.int .i64 0) (.int .i64 0)=some (.bool true):=rfl
 have z2:zAB .no .eql (.int .i64 ((2:Nat):Int)) (.int .i64 2)=some (.bool true):=rfl
 have z00:zAB .no .eql (.int .i64 ((0:Nat):Int)) (.int .i64 0)=some (.bool true):=rfl
 have z3:zAB .no .eql (.int .i64 ((3:Nat):Int)) (.int .i64 3)=some (.bool true):=rfl
 rw[z0,zAa]
 refine zDu rfl ?_
 rw[a18.ld (i:=2) rfl,zAa,ls,zAa,z2,zAa]
 show Mpu (zBy (.bool true) (.bool true) (.bool false)) _
 rw[zAt,if_pos rfl,zAa]
 refine zDu rfl ?_
 rw[a18.ld (i:=1) rfl,zAa,ld,zAa,z00,zAa]
 show Mpu (zBy (.bool true) (.bool true) (.bool false)) _
 rw[zAt,if_pos rfl,zAa]
 refine zDu rfl ?_
 rw[a18.ld (i:=3) rfl,zAa,lt,zAa,z3,zAa]
 show Mpu (zBy (.bool true) (.bool true) (.bool false)) _
 rw[zAt,if_pos rfl,zAa]
 exact⟨rfl,k018⟩
def hxL:List UInt8:=[48,49,50,51,52,53,54,55,56,57,97,98,99,100,101,102]
def hxD (n:Nat):UInt8:=hxL.getD n 0
def hx2 (c:UInt8):List UInt8:=[hxD (c.toNat / 16),hxD (c.toNat % 16)]
structure zTd (P:zAY)(H:zAw)(v:Value)(mv:List MV):Prop where
 h:SlE 8 P H v (mv.map mvC)
 m:∀ x∈mv,zL6 P H x.1 x.2.1 x.2.2.1 x.2.2.2
 hl:mv.length<=9223372036854775807
theorem zTd.keep {P S:zAY}{H H':zAw}{v:Value}{mv:List MV}(h:zTd P H v mv)(k:Keep S H H')(hs:∀ b,P b->¬ S b):zTd P H' v mv:=⟨h.h.keep k hs,λx hx=>(h.m x hx).keep k hs,h.hl⟩
def zRQ (x:MV):Prop:=x.1.name.length<=50/\x.1.ver.pre.length<=50/\x.1.deps.length<=8/\x.1.conf.length<=8/\x.1.files.length<=8
def zRR (mv:List MV):Prop:=∀ x∈mv,zRQ x
theorem zTd.to {P:zAY}{H:zAw}{v:Value}{mv:List MV}(h:zTd P H v mv)(hs:zRR mv):zNz P H v mv:=⟨h.h,h.m,λx hx=>by have:=hs x hx;unfold zRQ at this;omega⟩
theorem zTd.len {P:zAY}{H:zAw}{v:Value}{mv:List MV}(h:zTd P H v mv):zDA v=some (.int .i64 (mv.length:Nat)):=by have:=h.h.len;rwa [zAf]at this
theorem zKH {α β:Type}{f:α->β}{l:List α}{i:Nat}{x:α}(h:l[i]? = some x):(l.map f)[i]? = some (f x):=by rw[zAq,h];rfl
theorem zAcc {n m:Nat}:zAB .no .gtr (.int .i64 (n:Nat)) (.int .i64 ((m:Nat):Int))=some (.bool (decide (n > m))):=zZW
theorem zR0 {α:Type}{l:List α}{i:Nat}(h:i<l.length):∃ x,l[i]? = some x/\x∈l:=⟨l[i],zAj h,zAE h⟩
theorem zAd4 {α:Type}{l:List α}{p:α->Prop}(h:∀ x∈l.take l.length,p x):∀ x∈l,p x:=by rwa [zBx]at h
theorem zAcd {α:Type}{l:List α}{i:Nat}{x:α}{p:α->Prop}(hx:l[i]? = some x)(h:∀ y∈l.take i,p y)(hp:p x):∀ y∈l.take (i+1),p y:=by
 intro y hy
 rw[zAJ,hx]at hy
 rcases zAr.1 hy with hy|hy
 ·exact h y hy
 ·obtain rfl:y=x:=by simpa using hy
  exact hp
theorem zWm {P:zAY}{H:zAw}{v:Value}{mv:List MV}{most:Nat}(hp:zTd P H v mv) :
  zAA prg zDO [v,.int .i64 (most:Nat)] H λu H'=>(∃ b,u = .bool b/\(b=true->zRR mv/\mv.length<=most))/\Keep No H H':=by
 apply zLq
 unfold zJC
 refine range_i hp.len (λi h=>(∀ x∈mv.take i,zRQ x)/\Keep No H h) (λh=>zRR mv/\Keep No H h) ⟨by simp,Keep.refl⟩ (λh hI=>⟨zAd4 hI.1,hI.2⟩) ?_ ?_
 rotate_left
 ·rintro _ h ⟨hs,k⟩
  rw[hp.len,zAa,zXg,zAa]
  exact⟨⟨_,rfl,λe=>⟨hs,of_decide_eq_true e⟩⟩,k⟩
 rintro i h hlt ⟨hall,kh⟩ k1 k3 _ hk3
 obtain⟨x,hx,hm⟩:=zR0 hlt
 have hmx:=hp.m x hm
 have w:=hmx.wf
 refine zAlh (λh'=>zRQ x/\Keep No h h') (λk5 hk5=>?_) ?_
 rotate_left
 ·rintro _ _ _ _ _ h' ⟨hs,k'⟩
  exact zLc hlt hp.hl (hk3 _ ⟨zAcd hx hall hs,kh.trans k'⟩)
 refine zZ0 (hp.keep kh λ_ _=>id).h (zKH hx) zJL (zBI zMh) λh8 a8 k8=>?_
 have bad:(∃ b,Value.bool false = .bool b/\(b=true->zRR mv/\mv.length<=most))/\Keep No H h8:=⟨⟨_,rfl,λe=>by cases e⟩,kh.trans k8⟩
 have a8':At h8 h.size (zGU x.1 x.2.1 x.2.2.1 x.2.2.2):=a8
 obtain⟨g5,g6,g7⟩:=zHT a8' w
 have l1:=(hmx.d.keep (kh.trans k8) λ_ _=>id).len
 have l2:=(hmx.c.keep (kh.trans k8) λ_ _=>id).len
 have hf:=(hmx.keep (kh.trans k8) λ_ _=>id).f
 have l3:=hf.len
 rw[zAf]at l1 l2 l3
 have b8:∀ n:Nat,zAB .no .gtr (.int .i64 (n:Nat)) (.int .i64 8)=some (.bool (decide (n > 8))):=λn=>zAcc (m:=8)
 have b50:∀ n:Nat,zAB .no .gtr (.int .i64 (n:Nat)) (.int .i64 50)=some (.bool (decide (n > 50))):=λn=>zAcc (m:=50)
 simp only[zBk,zAh,zAu,zAa,zEc a8',zAgk a8' w,g5,g6,g7,l1,l2,l3,zEL,b8,b50]
 refine zP7 (λq=>zP7 (λ_=>zP7 (λ_=>zP7 (λ_=>zM2 rfl bad) nofun) nofun) nofun) λq1=>?_
 refine zP7 (λq=>zP7 (λ_=>zP7 (λ_=>zM2 rfl bad) nofun) nofun) λq2=>?_
 refine zCn g5 (zCn l1 (zCn (b8 _) ?_))
 refine zP7 (λq=>zP7 (λ_=>zM2 rfl bad) nofun) λq3=>?_
 refine zCn g6 (zCn l2 (zCn (b8 _) ?_))
 refine zP7 (λq=>zM2 rfl bad) λq4=>?_
 refine zCn g7 (zCn l3 (zCn (b8 _) (zUZ (λ_=>bad) λq5=>?_)))
 have hs1:zRQ x:=by
  rw[decide_eq_false_iff_not]at q1 q2 q3 q4 q5
  unfold zRQ;omega
 refine zCn g7 (zCn l3 (zWf (λ_ h'=>Keep No h8 h') Keep.refl (λh' k'=>hk5 _ _ _ _ _ _ ⟨hs1,k8.trans k'⟩) ?_))
 intro j h' hj k' k17 hk17
 obtain⟨f,hfx,hfm⟩:=zR0 hj
 have wf:=w.files f hfm
 refine zZ0 (hf.keep k' λ_ _=>id) (zKH hfx) zAeL (zEb zYl) λh9 a9 k9=>?_
 have k09:=(kh.trans k8).trans (k'.trans k9)
 have bad:(∃ b,Value.bool false = .bool b/\(b=true->zRR mv/\mv.length<=most))/\Keep No H h9:=⟨⟨_,rfl,λe=>by cases e⟩,k09⟩
 have f1:ld1 h9 (Ptr h'.size 0)=some (str f.name):=zAgi a9.pt
 have f2:ld1 h9 (Ptr h'.size 33)=some (.int .i64 f.size):=by have:=zAa9 a9.pt wf;rwa [zAh]at this
 have e80:zAB .no .gtr (.int .i64 (f.name.length:Nat)) (.int .i64 80)=some (.bool (decide (f.name.length > 80))):=zAcc (m:=80)
 have e3:zAB .no .gtr (.int .i64 f.size) (.int .i64 300)=some (.bool (decide (f.size > 300))):=by rw[zAG];rfl
 simp only[zBk,zAh,zAu,zAa,f1,zEL,e80]
 refine zP7 (λq=>zM2 rfl bad) λq1=>zCn f2 (zCn e3 (zUZ (λ_=>bad) λq2=>?_))
 exact zLc hj (by have:=hs1.2.2.2.2;omega) (hk17 _ (k'.trans k9))
end Go.Proofs.YticdfkoncnnmmaaGreatDoor
