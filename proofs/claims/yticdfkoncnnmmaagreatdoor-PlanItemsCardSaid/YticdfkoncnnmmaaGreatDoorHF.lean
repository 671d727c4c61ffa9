import Derived.Test.YticdfkoncnnmmaaGreatDoorHE
import Derived.Test.YticdfkoncnnmmaaGreatDoorG0
set_option linter.unusedSimpArgs false
set_option linter.unusedVariables false
set_option maxRecDepth 100000
namespace Go.Proofs.YticdfkoncnnmmaaGreatDoor
open Go.X Go.X.Diff Go.MapKept
def zUw (nm:List UInt8)(ds:List Dep):Man:=⟨nm,⟨[1,0,0],[]⟩,ds,[],[]⟩
def zKs (n:List UInt8):Dep:=⟨n,⟨[42],zB2⟩⟩
theorem zWO {n:List UInt8}(h:n.length<=9223372036854775807):(zKs n).wf:=⟨⟨zEM,by simp[zKs]⟩,h⟩
theorem zTb {nm:List UInt8}{ds:List (List UInt8)}(h:nm.length<=9223372036854775807)(hd:∀ d ∈ ds,d.length<=9223372036854775807):(zUw nm (ds.map zKs)).wf :=
 ⟨h,⟨rfl,by simp[zUw]⟩,fun d h=>by
  obtain⟨n,hn,rfl⟩:=List.mem_map.1 h
  exact zWO (hd n hn),(fun d h=>absurd h (by simp[zUw])),(fun d h=>absurd h (by simp[zUw]))⟩
theorem zAgt {nm:List UInt8}:zA4 prg zAb [(0,str nm),(1,.agg (zCt ⟨[1,0,0],[]⟩).toArray)]=some (.agg (mvC (zUw nm [],zAY,zAY,zAY)).toArray):=by kernel_rfl
set_option maxHeartbeats 1000000 in
theorem zTc {P:Nat->Prop}{H:zAd}{nm:List UInt8}{v:Value}{ds:List (List UInt8)}(hT:zAdV H)(hn:nm.length<=9223372036854775807)(hd:∀ d ∈ ds,d.length<=9223372036854775807)(hv:SlE 1 P H v (zOh ds))(hl:ds.length<=1000) :
  zAg prg zC6 [str nm,str [49,46,48,46,48],v] H fun u H'=>(∃ vd,u = .agg (mvC (zUw nm (ds.map zKs),vd,zAY,zAY)).toArray/\BufE 6 (fun b=>H.size<=b/\b<H'.size) H' vd ((ds.map zKs).map zDa))/\Keep (fun _=>False) H H':=by
 apply zJ3
 unfold zIL
 simp only[zKJ,zAs]
 generalize hH1:H.push (.cells (zEN ⟨[],zB2,[],[],[]⟩ zAY zAY zAY).toArray zAb (0,0))=H1
 have k1:Keep (fun _=>False) H H1:=by rw[<- hH1];exact Keep.push
 have a1:At H1 H.size (zEN ⟨[],zB2,[],[],[]⟩ zAY zAY zAY):=by rw[<- hH1];exact At.push
 have l1:=a1.lt
 have T1:=hT.keep k1 fun _ h=>h.elim
 refine zAk (zAdU T1.err T1.pow (by simp)) ?_
 rintro u h2 ⟨hR,k2⟩
 have hvw:(⟨[1,0,0],[]⟩:Ver).wf:=⟨rfl,by simp⟩
 have hok:zEX ⟨[1,0,0],[]⟩=true:=by decide +kernel
 have hs:zFH ⟨[1,0,0],[]⟩=[49,46,48,46,48]:=by decide +kernel
 obtain rfl:u=Value.tuple #[.agg (zCt ⟨[1,0,0],[]⟩).toArray,.int .i64 0]:=by
  rcases hR with ⟨v',hww,ho,hs',rfl⟩ | ⟨hno,rfl⟩
  ·rw[show v'=⟨[1,0,0],[]⟩ from zAbd hww.p3 hvw.p3 ho hok (by rw[hs',hs])]
  ·exact absurd hs (hno ⟨[1,0,0],[]⟩ hvw.p3 hok)
 have x0:∀ a b:Value,zDy 0 (.tuple #[a,b])=some a:=fun _ _=>rfl
 have x1:∀ a b:Value,zDy 1 (.tuple #[a,b])=some b:=fun _ _=>rfl
 rw[x0,zAa,x1,zAa]
 have zv:zAB prg zAn=some (zCt zB2).toArray:=by kernel_rfl
 simp only[zv,zAs]
 generalize hH3:h2.push (.cells (zCt zB2).toArray zAn (0,0))=h3
 have k3:Keep (fun _=>False) h2 h3:=by rw[<- hH3];exact Keep.push
 have a3:At h3 h2.size (zCt zB2):=by rw[<- hH3];exact At.push
 obtain⟨h4,st4,a4,k4⟩:=a3.st (n:=4) (ds:=zCt ⟨[1,0,0],[]⟩) (zBD zEM) (zBD hvw) zIB
 have k24:Keep (fun _=>False) h2 h4:=k3.fresh k4 fun b hb=>by omega
 have k14:=k2.trans k24
 have g14:=k14.1
 rw[st4,zAm,a4.ldN (zBD hvw),zAa,zAgt,zAa]
 generalize hH5:h4.push (.cells (zEN ⟨[],zB2,[],[],[]⟩ zAY zAY zAY).toArray zAb (0,0))=h5
 have k5:Keep (fun _=>False) h4 h5:=by rw[<- hH5];exact Keep.push
 have a5:At h5 h4.size (zEN ⟨[],zB2,[],[],[]⟩ zAY zAY zAY):=by rw[<- hH5];exact At.push
 have s5:h5.size=h4.size+1:=by rw[<- hH5];simp
 have w0:∀ i,(zUw nm ((ds.take i).map zKs)).wf:=fun i=>zTb hn fun d h=>hd d (List.mem_of_mem_take h)
 have mone:∀ {m:Man} {t:Value},t.oneCell'=true->∀ c ∈ mvC (m,t,zAY,zAY),c.oneCell'=true:=fun ht c hc=>by
  rcases List.mem_cons.1 hc with rfl | hc
  ·rfl
  rcases List.mem_append.1 hc with hc | hc
  ·exact zIB c hc
  ·simp only[List.mem_cons,List.not_mem_nil,or_false]at hc
   rcases hc with rfl | rfl | rfl
   ·exact ht
   ·rfl
   ·rfl
 obtain⟨h6,st6,a6,k6⟩:=a5.st (n:=8) (ds:=mvC (zUw nm [],zAY,zAY,zAY)) (zAH zMt) (zAH (w0 0)) (mone rfl)
 have k46:Keep (fun _=>False) h4 h6:=k5.fresh k6 fun b hb=>by omega
 have k16:=k14.trans k46
 have g6:=k6.1
 rw[st6,zAm]
 have hlen:=hv.len
 rw[zLS]at hlen
 let I:Nat->zAd->Prop:=fun i h=>∃ t,At h h4.size (mvC (zUw nm ((ds.take i).map zKs),t,zAY,zAY))/\BufE 6 (fun b=>h6.size<=b/\b<h.size) h t (((ds.take i).map zKs).map zDa)/\Keep (· = h4.size) h6 h
 refine zL2 (fun _ h=>I ds.length h) (fun k7 hk7=>?_) ?_
 rotate_left
 ·rintro _ h8 ⟨t,a8,b8,k8⟩
  have w8:=w0 ds.length
  rw[List.take_of_length_le (Nat.le_refl _)]at a8 b8 w8
  have k18:Keep (fun _=>False) H1 h8:=k16.fresh k8 fun b e=>by omega
  obtain⟨h14,st14,a14,k14'⟩:=(a1.keep k18 id).st (n:=8) (ds:=mvC (zUw nm (ds.map zKs),t,zAY,zAY)) (zAH zMt) (zAH w8) (mone b8.sl.oneC)
  rw[a8.ldN (zAH w8),zAa,st14,zAm,a14.ldN (zAH w8),zAa]
  have g14':=k14'.1
  have g16:=k16.1
  have g1:=k1.1
  exact⟨⟨t,rfl,(b8.keep k14' fun b hb=>by omega).mono fun b hb=>by omega⟩,(k1.trans k18).fresh k14' fun b e=>by omega⟩
 rw[hlen,zAa]
 refine zHU (fun w h=>∃ i:Nat,i<=ds.length/\w = .int .i64 (i:Nat)/\I i h) (fun w _=>match w with | .int _ t=>ds.length - t.toNat | _=>0) ⟨0,Nat.zero_le _,rfl,zAY,a6,BufE.nil,Keep.refl⟩ ?_
 rintro _ h10 ⟨i,hi,rfl,t,a10,b10,k10⟩ k9 hk9
 have g10:=k10.1
 rw[zMs,zAa,zAc]
 by_cases hlt:i<ds.length
 rotate_left
 ·rw[if_neg (by simpa using hlt)]
  obtain rfl:i=ds.length:=by omega
  exact hk7 _ _ ⟨t,a10,b10,k10⟩
 rw[if_pos (by simpa using hlt)]
 have hg:ds[i]? = some ds[i]:=List.getElem?_eq_getElem hlt
 have hm:=List.getElem_mem hlt
 generalize ds[i]=d at *
 have hdl:=hd d hm
 have k010:Keep (fun _=>False) H h10:=(k1.trans k16).fresh k10 fun b e=>by have:=k1.1;omega
 obtain⟨b,o,hix,hpt,_⟩:=(hv.keep k010 fun _ _=>id).at (i:=i) (x:=[str d]) (by simpa [zFB] using hg)
 have s42:(Value.string ⟨#[42]⟩)=str [42]:=rfl
 simp only[zAx,Nat.zero_add,zAa]
 rw[hix .i64,zAa,hpt.cell0 rfl,zAa,(zE9 a10 (w0 i)).1,zAa,s42,b_W,zAa]
 show Mpu (zA4 prg zAj [(0,str (zKs d).name),(1,.agg (zDl (zKs d).want).toArray)]) _
 have hds:=zWO hdl
 rw[zZ6 hds,zAa,zQg hds,zAV]
 have hr:=zK5 (x:=zDa (zKs d)) (T:=zAj) (h:=h10) (n:=6) (zB7 hds) zID
 have kp:Keep (fun _=>False) h10 (h10.push (.cells (zDa (zKs d)).toArray zAj (0,0))):=Keep.push
 have gp:=kp.1
 have htl:(ds.take i).length=i:=by rw[List.length_take];omega
 refine((b10.keep kp fun _ _=>id).mono (G:=fun b=>h6.size<=b) fun b hb=>hb.1).app hr (by omega) (by rw[List.length_map,List.length_map,List.length_singleton];omega) (by show h6.size<=_;omega) fun t' h12 b12 k12=>?_
 have g12:=k12.1
 have hv4:=zBD hvw
 obtain⟨h13,st13,a13,k13⟩:=((a10.keep kp id).keep k12 fun e=>by omega).st1 (i:=5) (v:=t') (by have:(mvC (zUw nm ((ds.take i).map zKs),t,zAY,zAY)).length=8:=zAH (w0 i);omega) b12.sl.oneC
 have hts:ds.take (i+1)=ds.take i++[d]:=by rw[List.take_add_one,hg];rfl
 rw[st13,zAm,zAG (by omega),zAa]
 refine hk9 _ _ ⟨i+1,by omega,rfl,t',?_,?_,?_⟩ (by show ds.length - (i+1)<ds.length - i;omega)
 ·have e:(mvC (zUw nm ((ds.take i).map zKs),t,zAY,zAY)).set 5 t'=mvC (zUw nm ((ds.take (i+1)).map zKs),t',zAY,zAY):=by simp[mvC,zEN,zUw,List.set_append,hv4,zCt]
  rw[e]at a13;exact a13
 ·rw[hts,List.map_append,List.map_append]
  have g13:=k13.1
  exact((BufE.re b12 (G:=fun b=>h6.size<=b/\b<h12.size) fun b h1 h2=>⟨h2,h1⟩).keep k13 fun b hb e=>by omega).mono fun b hb=>by omega
 ·exact((k10.trans (kp.mono fun _ _ h=>h.elim)).fresh' k12 fun b hb => .inr hb).trans k13
def kA:Man:=zUw [97] ([].map zKs)
def kB:Man:=zUw [98] ([[99]].map zKs)
def kC:Man:=zUw [99] ([].map zKs)
def k1P:Pk:=(kB,[])
def k2P:Pk:=(kC,[])
def zAas:zRp:=⟨1,[98],⟨[42],zB2⟩,9⟩
theorem zAeI:zAas.wf:=⟨by simp[zAas],⟨zEM,by simp[zAas]⟩⟩
theorem zAc0:zZZ [] k1P=0/\zZ0 [] k1P=[k1P]:=by
 have h:zAeA k1P=true:=by decide +kernel
 exact⟨by unfold zZZ;rw[h];rfl,by unfold zZ0;rw[h];rfl⟩
theorem zAc1:zZZ [k1P] k2P=0/\zZ0 [k1P] k2P=[k1P,k2P]:=by
 have h:zAeA k2P=true:=by decide +kernel
 have h2:[k1P].find? (zLA k2P.1.name k2P.1.ver)=none:=by
  rw[List.find?_eq_none]
  intro x hx
  rw[List.mem_singleton.1 hx]
  decide +kernel
 exact⟨by unfold zZZ;rw[h,h2];rfl,by unfold zZ0;rw[h,h2];rfl⟩
def kHv:List Man:=[kA,kB,kC]
def kWs:List Dep:=[⟨[98],⟨[42],zB2⟩⟩,⟨[97],⟨[61],⟨[1,0,0],[]⟩⟩⟩]
theorem zAeJ:zG5 [kA]=true:=by decide +kernel
theorem zAhG:zPD zAas=true:=by decide +kernel
theorem zAeK:zFl [kA] [k1P,k2P]=kHv:=by
 have h1:zXB [kA] kB=true:=by decide +kernel
 have h2:zXB [kA] kC=true:=by decide +kernel
 unfold zFl
 show [kA]++[kB,kC].filter (zXB [kA])=_
 rw[List.filter_cons,h1,List.filter_cons,h2];rfl
theorem zAeL:zPX [kA] zAas.name zAas.want=kWs:=rfl
theorem zAiK:zGw kHv kWs 9=true:=by decide +kernel
theorem zAhH:Run kHv 9 (.sol [] kWs) 0 (.ok [1,0,2]) 3:=by
 have e1:zM4 kHv ⟨[98],⟨[42],zB2⟩⟩=[1]:=by decide +kernel
 have e2:zM4 kHv ⟨[97],⟨[61],⟨[1,0,0],[]⟩⟩⟩=[0]:=by decide +kernel
 have e3:zM4 kHv (zKs [99])=[2]:=by decide +kernel
 refine Run.go (d:=⟨[98],⟨[42],zB2⟩⟩) (ws:=[⟨[97],⟨[61],⟨[1,0,0],[]⟩⟩⟩]) (by decide +kernel) ?_
 rw[e1]
 refine Run.down (by decide) (by decide +kernel) ?_ (by simp)
 refine Run.go (d:=⟨[97],⟨[61],⟨[1,0,0],[]⟩⟩⟩) (ws:=[zKs [99]]) (by decide +kernel) ?_
 rw[e2]
 refine Run.down (by decide) (by decide +kernel) ?_ (by simp)
 refine Run.go (d:=zKs [99]) (ws:=[]) (by decide +kernel) ?_
 rw[e3]
 refine Run.down (by decide) (by decide +kernel) ?_ (by simp)
 exact Run.done
theorem zAb1:(zEO kHv [1,0,2]).map (gM kHv)=kHv:=by
 have h:zEO kHv [1,0,2]=[0,1,2]:=by decide +kernel
 rw[h];rfl
theorem zAgu:zG5 kHv=true:=by decide +kernel
theorem zAgv:[kA].filter (fun m=>!zOf kHv m)=[]:=by
 have h:zOf kHv kA=true:=by decide +kernel
 rw[List.filter_cons,h];rfl
theorem zAhI:(kHv.filter fun m=>!zOf [kA] m)=[kB,kC]:=by
 have h1:zOf [kA] kA=true:=by decide +kernel
 have h2:zOf [kA] kB=false:=by decide +kernel
 have h3:zOf [kA] kC=false:=by decide +kernel
 unfold kHv
 rw[List.filter_cons,h1,List.filter_cons,h2,List.filter_cons,h3];rfl
theorem zAgw {x:MV}(h:x.1.wf):zA4 prg zAv [(0,.agg (mvC x).toArray)]=some (.agg (pvC (x,zAY,[])).toArray):=by
 have k:zJT prg zAv=some ([(0,8),(8,1)],(pvC zPW).toArray):=by kernel_rfl
 obtain⟨a,b,c,e⟩:=Ver.cases3 h.ver
 obtain⟨⟨n,⟨p,pre⟩,d1,d2,d3⟩,v1,v2,v3⟩:=x
 simp only at e
 subst e
 rw[zGf k];rfl
theorem zAeM:zA4 prg zGS [(0,.int .i64 1),(1,str [98]),(2,.agg (zDl ⟨[42],zB2⟩).toArray),(3,.int .i64 9)]=some (.agg (zS7 zAas).toArray):=by kernel_rfl
theorem zAhJ {s:List UInt8}:zFt prg zAz 1 [(0,str s)]=some #[str s]:=zAg5
set_option maxHeartbeats 2000000 in
theorem zUx {H:zAd}(hT:zAdV H)(hS:zTg H):zAg prg zDN [] H fun u H'=>u = .bool true/\Keep (fun _=>False) H H':=by
 apply zJC
 unfold zHY
 have hNG:NG<=H.size:=hS.sz
 have s97:(Value.string ⟨#[97]⟩)=str [97]:=rfl
 have s98:(Value.string ⟨#[98]⟩)=str [98]:=rfl
 have s99:(Value.string ⟨#[99]⟩)=str [99]:=rfl
 have sv1:(Value.string ⟨#[49,46,48,46,48]⟩)=str [49,46,48,46,48]:=rfl
 have s42:(Value.string ⟨#[42]⟩)=str [42]:=rfl
 rw[s97,s98,s99,sv1,s42]
 have pn:∀ x,zAh .ptr .eql (Ptr x 0) (.pointer none)=some (.bool false):=fun x=>rfl
 have ne0:∀ n:Int,zAh .no .neq (.int .i64 n) (.int .i64 0)=some (.bool (!decide (n=0))):=fun n=>neI
 refine zAk zZ1 ?_
 rintro _ h1 ⟨rfl,q1,k1⟩
 have g1:=k1.1
 rw[pn,zAa]
 refine zBM rfl ?_
 rw[zAhJ,zAV]
 have hr:=zK5 (x:=[str [99]]) (T:=zAz) (h:=h1) (n:=1) rfl (fun c hc=>by rw[List.mem_singleton.1 hc];rfl)
 have k3:Keep (fun _=>False) h1 (h1.push (.cells [str [99]].toArray zAz (0,0))):=Keep.push
 generalize h1.push (.cells [str [99]].toArray zAz (0,0))=h3 at *
 have k03:=k1.trans k3
 refine zAk (zTc (nm:=[98]) (ds:=[[99]]) (hT.keep k03 fun _ h=>h.elim) (by simp) (by simp) hr (by simp)) ?_
 rintro _ h4 ⟨⟨vd,rfl,bd⟩,k4⟩
 have k04:=k03.trans k4
 have g04:=k04.1
 have g34:=k03.1
 have wB:kB.wf:=zTb (by simp) (by simp)
 have wC:kC.wf:=zTb (by simp) (by simp)
 have wA:kA.wf:=zTb (by simp) (by simp)
 let xB:PW:=((kB,vd,zAY,zAY),zAY,[])
 have hxB:zAcX (fun b=>h3.size<=b/\b<h4.size) h4 xB:=⟨⟨bd.sl,SlE.nil,SlE.nil,wB⟩,⟨SlE.nil,fun x hx=>(by cases hx)⟩,(by decide:kB.deps.length<=1000),(by decide:kB.conf.length<=1000),(by decide:kB.files.length<=1000)⟩
 show Mpu (zA4 prg zAv [(0,.agg (mvC xB.1).toArray)]) _
 rw[zAgw (x:=xB.1) wB,zAa]
 have q4:=(q1.keep k3 fun _ _=>id).keep k4 fun _ _=>id
 refine zAk (zAgl (x:=xB) q4 hxB (fun b hb=>hb.2) (by simp) (hT.keep k04 fun _ h=>h.elim).ops (hS.keep k04 fun _ h=>h.elim)) ?_
 rintro _ h5 ⟨rfl,⟨R5,q5,hR5⟩,k5⟩
 have k05:Keep (fun _=>False) H h5:=k04.fresh k5 fun b e=>by omega
 have g5:=k5.1
 have ep:zO2 xB=k1P:=rfl
 rw[ep,zAc0.1,ne0,zAa]
 rw[ep,zAc0.2]at q5
 rw[zAe,if_neg (by decide),zAa]
 refine zBM rfl ?_
 refine zAk (zTc (P:=fun _=>False) (nm:=[99]) (ds:=[]) (hT.keep k05 fun _ h=>h.elim) (by simp) (by simp) SlE.nil (by simp)) ?_
 rintro _ h8 ⟨⟨vd2,rfl,bd2⟩,k8⟩
 have k08:=k05.trans k8
 have g8:=k8.1
 let xC:PW:=((kC,vd2,zAY,zAY),zAY,[])
 have hxC:zAcX (fun b=>h5.size<=b/\b<h8.size) h8 xC:=⟨⟨bd2.sl,SlE.nil,SlE.nil,wC⟩,⟨SlE.nil,fun x hx=>(by cases hx)⟩,(by decide:kC.deps.length<=1000),(by decide:kC.conf.length<=1000),(by decide:kC.files.length<=1000)⟩
 show Mpu (zA4 prg zAv [(0,.agg (mvC xC.1).toArray)]) _
 rw[zAgw (x:=xC.1) wC,zAa]
 refine zAk (zAgl (x:=xC) (q5.keep k8 fun _ _=>id) hxC (fun b hb=>hb.2) (by simp) (hT.keep k08 fun _ h=>h.elim).ops (hS.keep k08 fun _ h=>h.elim)) ?_
 rintro _ h9 ⟨rfl,⟨R9,q9,hR9⟩,k9⟩
 have k09:Keep (fun _=>False) H h9:=k08.fresh k9 fun b e=>by
  rcases hR5 b e with e | e <;> omega
 have g9:=k9.1
 have ep2:zO2 xC=k2P:=rfl
 rw[ep2,zAc1.1,ne0,zAa]
 rw[ep2,zAc1.2]at q9
 rw[zAe,if_neg (by decide),zAa]
 refine zBM rfl ?_
 refine zAk (zZ2 q9) ?_
 rintro _ _ ⟨rfl,rfl⟩
 have n2:zAh .no .neq (.int .i64 (([k1P,k2P].length:Nat):Int)) (.int .i64 2)=some (.bool false):=rfl
 rw[n2,zAa]
 show Mpu (zAC (.bool false) (.bool true) (.bool false)) _
 rw[zAe,if_neg (by decide),zAa,zAc,if_neg (by decide)]
 refine zAk (zTc (P:=fun _=>False) (nm:=[97]) (ds:=[]) (hT.keep k09 fun _ h=>h.elim) (by simp) (by simp) SlE.nil (by simp)) ?_
 rintro _ h14 ⟨⟨vd3,rfl,bd3⟩,k14⟩
 have k014:=k09.trans k14
 have g14:=k14.1
 have g09:=k09.1
 let xA:MV:=(kA,vd3,zAY,zAY)
 have hmA:zJJ (fun b=>h9.size<=b/\b<h14.size) h14 kA vd3 zAY zAY:=⟨bd3.sl,SlE.nil,SlE.nil,wA⟩
 show zC5 h14 zAb 1 (zFt prg zAb 1 [(0,.agg (mvC xA).toArray)]) _
 rw[zRf (zAH wA),zAV]
 have hrA:=zK5 (x:=mvC xA) (T:=zAb) (h:=h14) (n:=8) (zAH wA) (zF7 (x:=xA) hmA)
 have k15:Keep (fun _=>False) h14 (h14.push (.cells (mvC xA).toArray zAb (0,0))):=Keep.push
 have s15:(h14.push (.cells (mvC xA).toArray zAb (0,0))).size=h14.size+1:=by simp
 generalize h14.push (.cells (mvC xA).toArray zAb (0,0))=h15 at *
 have k015:=k014.trans k15
 have hp:zNs (fun b=>h9.size<=b/\b<h15.size) h15 (.slice (some ⟨h14.size,0,none⟩) 1 1) [xA]:=⟨hrA.mono fun b hb=>by omega,fun x hx=>by
  rw[List.mem_singleton.1 hx]
  exact(hmA.keep k15 fun _ _=>id).mono fun b hb=>by omega,fun x hx=>by rw[List.mem_singleton.1 hx];exact⟨(by decide:kA.deps.length<=1000),(by decide:kA.conf.length<=1000)⟩⟩
 rw[b_W,zAa,zAeM,zAa]
 refine zAk (zAeH hp ((q9.keep k14 fun _ _=>id).keep k15 fun _ _=>id) (fun b hb=>hb.2) zAeI rfl (by simp) (hT.keep k015 fun _ h=>h.elim).ops (by have:=k015.1;omega)) ?_
 rintro u h16 ⟨hu,k16⟩
 have k016:=k015.trans k16
 have hin:zA7 [xA]=[kA]:=rfl
 rw[hin]at hu
 have good:(zG5 [kA] && zPD zAas)=true:=by rw[zAeJ,zAhG];rfl
 have hno:[kA].find? (fun m=>decide (m.name=zAas.name))=none:=by decide +kernel
 obtain⟨n0,z,col,d,s,t,dr,ad,af,rfl,hz,hc,e1,e2,e3⟩:∃ n0 z col d s t dr ad af,u = .tuple #[.agg (chC 1 d s t).toArray,.int .i64 0]/\h15.size<=z/\ChI n0 z 1 col d s t dr ad af h16/\dr.length=0/\ad.length=2/\af.length=3:=by
  rcases hu with ⟨h,_⟩ | ⟨_,⟨h,_⟩ | ⟨_,h⟩⟩
  ·rw[good]at h;cases h
  ·rw[hno]at h;cases h
  ·rw[zAeK,zAeL]at h
   rcases h with ⟨h,_⟩ | ⟨_,r,st,hrun,h⟩
   ·rw[show zAas.bound=9 from rfl,zAiK]at h;cases h
   ·obtain⟨rfl,rfl⟩:=Run.det hrun zAhH
    simp only at h
    rw[zAb1]at h
    rcases h with ⟨h,_⟩ | ⟨_,n0,z,col,d,s,t,dr,ad,af,rfl,h2,h3,h4,h5,h6⟩
    ·rw[zAgu]at h;cases h
    ·rw[zAgv]at h4
     rw[zAhI]at h5
     refine⟨n0,z,col,d,s,t,dr,ad,af,rfl,h2,h3,?_,?_,?_⟩
     ·have:=congrArg List.length h4;simpa using this
     ·have:=congrArg List.length h5;simpa using this
     ·have:=congrArg List.length h6;simpa [kHv] using this
 have x0:∀ a b:Value,zDy 0 (.tuple #[a,b])=some a:=fun _ _=>rfl
 have x1:∀ a b:Value,zDy 1 (.tuple #[a,b])=some b:=fun _ _=>rfl
 rw[x0,zAa,x1,zAa]
 simp only[zS9,zAs]
 generalize hH17:h16.push (.cells (chC 0 zAY zAY zAY).toArray zAU (0,0))=h17
 have k17:Keep (fun _=>False) h16 h17:=by rw[<- hH17];exact Keep.push
 have a17:At h17 h16.size (chC 0 zAY zAY zAY):=by rw[<- hH17];exact At.push
 obtain⟨h18,st18,a18,k18⟩:=a17.st (n:=4) (ds:=chC 1 d s t) rfl rfl (zPE hc.bd.sl.oneC hc.bs.sl.oneC hc.bt.sl.oneC)
 have g016:=k016.1
 have k018:=(k016.trans k17).fresh k18 fun b e=>by omega
 have ls:=hc.bs.sl.len
 have ld:=hc.bd.sl.len
 have lt:=hc.bt.sl.len
 rw[List.length_map,e2]at ls
 rw[List.length_map,e1]at ld
 rw[List.length_map,e3]at lt
 simp only[zAx,Nat.zero_add,zAa]
 rw[st18,zAm]
 have z0:zAh .no .eql (.int .i64 0) (.int .i64 0)=some (.bool true):=rfl
 have z2:zAh .no .eql (.int .i64 ((2:Nat):Int)) (.int .i64 2)=some (.bool true):=rfl
 have z00:zAh .no .eql (.int .i64 ((0:Nat):Int)) (.int .i64 0)=some (.bool true):=rfl
 have z3:zAh .no .eql (.int .i64 ((3:Nat):Int)) (.int .i64 3)=some (.bool true):=rfl
 rw[z0,zAa]
 refine zBM rfl ?_
 rw[a18.ld (i:=2) rfl,zAa,ls,zAa,z2,zAa]
 show Mpu (zAC (.bool true) (.bool true) (.bool false)) _
 rw[zAe,if_pos rfl,zAa]
 refine zBM rfl ?_
 rw[a18.ld (i:=1) rfl,zAa,ld,zAa,z00,zAa]
 show Mpu (zAC (.bool true) (.bool true) (.bool false)) _
 rw[zAe,if_pos rfl,zAa]
 refine zBM rfl ?_
 rw[a18.ld (i:=3) rfl,zAa,lt,zAa,z3,zAa]
 show Mpu (zAC (.bool true) (.bool true) (.bool false)) _
 rw[zAe,if_pos rfl,zAa]
 exact⟨rfl,k018⟩
end Go.Proofs.YticdfkoncnnmmaaGreatDoor
