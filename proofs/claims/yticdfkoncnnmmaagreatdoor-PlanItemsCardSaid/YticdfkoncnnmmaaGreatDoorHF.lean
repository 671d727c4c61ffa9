import Derived.Test.YticdfkoncnnmmaaGreatDoorHE
import Derived.Test.YticdfkoncnnmmaaGreatDoorG0
set_option linter.unusedSimpArgs false
set_option linter.unusedVariables false
namespace Go.Proofs.YticdfkoncnnmmaaGreatDoor
open Go.X Go.X.Diff Go.MapKept
set_option maxRecDepth 100000
set_option linter.unusedSimpArgs false
set_option linter.unusedVariables false
def man1(nm:List UInt8)(ds:List Dep):Man:=⟨nm,⟨[1,0,0],[]⟩,ds,[],[]⟩
def starD(n:List UInt8):Dep:=⟨n,⟨[42],zeroV⟩⟩
theorem zR0{n:List UInt8}(h:n.length≤9223372036854775807):(starD n).wf:=⟨⟨zCi,by simp[starD]⟩,h⟩
theorem zNN{nm:List UInt8}{ds:List(List UInt8)}(h:nm.length≤9223372036854775807)(hd:∀ d ∈ ds,d.length≤9223372036854775807):(man1 nm(ds.map starD)).wf :=
  ⟨h,⟨rfl,by simp[man1]⟩,fun d h=>by
    obtain⟨n,hn,rfl⟩:=List.mem_map.1 h
    exact zR0(hd n hn),(fun d h=>absurd h(by simp[man1])),(fun d h=>absurd h(by simp[man1]))⟩
theorem zYk{nm:List UInt8}:buildV prg zAc [(0,str nm),(1,.agg(verC⟨[1,0,0],[]⟩).toArray)]=some(.agg(mvC(man1 nm [],nilS,nilS,nilS)).toArray):=by kernel_rfl
set_option maxHeartbeats 1000000 in
theorem zOD{P:Nat→Prop}{H:Heap}{nm:List UInt8}{v:Value}{ds:List(List UInt8)}(hT:VerT H)(hn:nm.length≤9223372036854775807)(hd:∀ d ∈ ds,d.length≤9223372036854775807)(hv:SlE 1 P H v(strs ds))(hl:ds.length≤1000) :
    HCalls prg zCz [str nm,str [49,46,48,46,48],v] H fun u H'=>(∃ vd,u = .agg(mvC(man1 nm(ds.map starD),vd,nilS,nilS)).toArray∧BufE 6(fun b=>H.size≤b∧b<H'.size)H' vd((ds.map starD).map depC))∧Keep(fun _=>False)H H':=by
  apply zJL
  unfold zHZ
  simp only[zFg,zAp]
  generalize hH1:H.push(.cells(manC⟨[],zeroV,[],[],[]⟩nilS nilS nilS).toArray zAc(0,0))=H1
  have k1:Keep(fun _=>False)H H1:=by rw[← hH1];exact Keep.push
  have a1:At H1 H.size(manC⟨[],zeroV,[],[],[]⟩nilS nilS nilS):=by rw[← hH1];exact At.push
  have l1:=a1.lt
  have T1:=hT.keep k1 fun _ h=>h.elim
  refine zAf(zWX T1.err T1.pow(by simp))?_
  rintro u h2⟨hR,k2⟩
  have hvw:(⟨[1,0,0],[]⟩:Ver).wf:=⟨rfl,by simp⟩
  have hok:verOk⟨[1,0,0],[]⟩=true:=by decide +kernel
  have hs:showF⟨[1,0,0],[]⟩=[49,46,48,46,48]:=by decide +kernel
  obtain rfl:u=Value.tuple #[.agg(verC⟨[1,0,0],[]⟩).toArray,.int .i64 0]:=by
    rcases hR with⟨v',hww,ho,hs',rfl⟩ | ⟨hno,rfl⟩
    · rw[show v'=⟨[1,0,0],[]⟩from zVF hww.p3 hvw.p3 ho hok(by rw[hs',hs])]
    · exact absurd hs(hno⟨[1,0,0],[]⟩hvw.p3 hok)
  have x0:∀ a b:Value,extV 0(.tuple #[a,b])=some a:=fun _ _=>rfl
  have x1:∀ a b:Value,extV 1(.tuple #[a,b])=some b:=fun _ _=>rfl
  rw[x0,zAa,x1,zAa]
  have zv:zcells prg zAn=some(verC zeroV).toArray:=by kernel_rfl
  simp only[zv,zAp]
  generalize hH3:h2.push(.cells(verC zeroV).toArray zAn(0,0))=h3
  have k3:Keep(fun _=>False)h2 h3:=by rw[← hH3];exact Keep.push
  have a3:At h3 h2.size(verC zeroV):=by rw[← hH3];exact At.push
  obtain⟨h4,st4,a4,k4⟩:=a3.st(n:=4)(ds:=verC⟨[1,0,0],[]⟩)(zAU zCi)(zAU hvw)zEJ
  have k24:Keep(fun _=>False)h2 h4:=k3.fresh k4 fun b hb=>by omega
  have k14:=k2.trans k24
  have g14:=k14.1
  rw[st4,zAi,a4.ldN(zAU hvw),zAa,zYk,zAa]
  generalize hH5:h4.push(.cells(manC⟨[],zeroV,[],[],[]⟩nilS nilS nilS).toArray zAc(0,0))=h5
  have k5:Keep(fun _=>False)h4 h5:=by rw[← hH5];exact Keep.push
  have a5:At h5 h4.size(manC⟨[],zeroV,[],[],[]⟩nilS nilS nilS):=by rw[← hH5];exact At.push
  have s5:h5.size=h4.size+1:=by rw[← hH5];simp
  have w0:∀ i,(man1 nm((ds.take i).map starD)).wf:=fun i=>zNN hn fun d h=>hd d(List.mem_of_mem_take h)
  have mone:∀ {m:Man}{t:Value},t.oneCell'=true→∀ c ∈ mvC(m,t,nilS,nilS),c.oneCell'=true:=fun ht c hc=>by
    rcases List.mem_cons.1 hc with rfl | hc
    · rfl
    rcases List.mem_append.1 hc with hc | hc
    · exact zEJ c hc
    · simp only[List.mem_cons,List.not_mem_nil,or_false]at hc
      rcases hc with rfl | rfl | rfl
      · exact ht
      · rfl
      · rfl
  obtain⟨h6,st6,a6,k6⟩:=a5.st(n:=8)(ds:=mvC(man1 nm [],nilS,nilS,nilS))(zAw zM_wf)(zAw(w0 0))(mone rfl)
  have k46:Keep(fun _=>False)h4 h6:=k5.fresh k6 fun b hb=>by omega
  have k16:=k14.trans k46
  have g6:=k6.1
  rw[st6,zAi]
  have hlen:=hv.len
  rw[zHN]at hlen
  let I:Nat→Heap→Prop:=fun i h=>∃ t,At h h4.size(mvC(man1 nm((ds.take i).map starD),t,nilS,nilS))∧BufE 6(fun b=>h6.size≤b∧b<h.size)h t(((ds.take i).map starD).map depC)∧Keep(· = h4.size)h6 h
  refine J1_i(fun _ h=>I ds.length h)(fun k7 hk7=>?_)?_
  rotate_left
  · rintro _ h8⟨t,a8,b8,k8⟩
    have w8:=w0 ds.length
    rw[List.take_of_length_le(Nat.le_refl _)]at a8 b8 w8
    have k18:Keep(fun _=>False)H1 h8:=k16.fresh k8 fun b e=>by omega
    obtain⟨h14,st14,a14,k14'⟩:=(a1.keep k18 id).st(n:=8)(ds:=mvC(man1 nm(ds.map starD),t,nilS,nilS))(zAw zM_wf)(zAw w8)(mone b8.sl.oneC)
    rw[a8.ldN(zAw w8),zAa,st14,zAi,a14.ldN(zAw w8),zAa]
    have g14':=k14'.1
    have g16:=k16.1
    have g1:=k1.1
    exact⟨⟨t,rfl,(b8.keep k14' fun b hb=>by omega).mono fun b hb=>by omega⟩,(k1.trans k18).fresh k14' fun b e=>by omega⟩
  rw[hlen,zAa]
  refine L1_i(fun w h=>∃ i:Nat,i≤ds.length∧w = .int .i64(i:Nat)∧I i h)(fun w _=>match w with | .int _ t=>ds.length - t.toNat | _=>0)⟨0,Nat.zero_le _,rfl,nilS,a6,BufE.nil,Keep.refl⟩?_
  rintro _ h10⟨i,hi,rfl,t,a10,b10,k10⟩k9 hk9
  have g10:=k10.1
  rw[ltNn,zAa,zAb]
  by_cases hlt:i<ds.length
  rotate_left
  · rw[if_neg(by simpa using hlt)]
    obtain rfl:i=ds.length:=by omega
    exact hk7 _ _⟨t,a10,b10,k10⟩
  rw[if_pos(by simpa using hlt)]
  have hg:ds[i]? = some ds[i]:=List.getElem?_eq_getElem hlt
  have hm:=List.getElem_mem hlt
  generalize ds[i]=d at *
  have hdl:=hd d hm
  have k010:Keep(fun _=>False)H h10:=(k1.trans k16).fresh k10 fun b e=>by have:=k1.1;omega
  obtain⟨b,o,hix,hpt,_⟩:=(hv.keep k010 fun _ _=>id).at(i:=i)(x:=[str d])(by simpa [rows1] using hg)
  have s42:(Value.string⟨#[42]⟩)=str [42]:=rfl
  simp only[zAq,Nat.zero_add,zAa]
  rw[hix .i64,zAa,hpt.cell0 rfl,zAa,(zCr a10(w0 i)).1,zAa,s42,b_W,zAa]
  show Mpu(buildV prg zAk [(0,str(starD d).name),(1,.agg(wantC(starD d).want).toArray)])_
  have hds:=zR0 hdl
  rw[zRW hds,zAa,zML hds,zAJ]
  have hr:=zFO(x:=depC(starD d))(T:=zAk)(h:=h10)(n:=6)(zA4 hds)zEM
  have kp:Keep(fun _=>False)h10(h10.push(.cells(depC(starD d)).toArray zAk(0,0))):=Keep.push
  have gp:=kp.1
  have htl:(ds.take i).length=i:=by rw[List.length_take];omega
  refine((b10.keep kp fun _ _=>id).mono(G:=fun b=>h6.size≤b)fun b hb=>hb.1).app hr(by omega)(by rw[List.length_map,List.length_map,List.length_singleton];omega)(by show h6.size≤_;omega)fun t' h12 b12 k12=>?_
  have g12:=k12.1
  have hv4:=zAU hvw
  obtain⟨h13,st13,a13,k13⟩:=((a10.keep kp id).keep k12 fun e=>by omega).st1(i:=5)(v:=t')(by have:(mvC(man1 nm((ds.take i).map starD),t,nilS,nilS)).length=8:=zAw(w0 i);omega)b12.sl.oneC
  have hts:ds.take(i+1)=ds.take i++[d]:=by rw[List.take_add_one,hg];rfl
  rw[st13,zAi,zAv(by omega),zAa]
  refine hk9 _ _⟨i+1,by omega,rfl,t',?_,?_,?_⟩(by show ds.length - (i+1)<ds.length - i;omega)
  · have e:(mvC(man1 nm((ds.take i).map starD),t,nilS,nilS)).set 5 t'=mvC(man1 nm((ds.take(i+1)).map starD),t',nilS,nilS):=by simp[mvC,manC,man1,List.set_append,hv4,verC]
    rw[e]at a13;exact a13
  · rw[hts,List.map_append,List.map_append]
    have g13:=k13.1
    exact((BufE.re b12(G:=fun b=>h6.size≤b∧b<h12.size)fun b h1 h2=>⟨h2,h1⟩).keep k13 fun b hb e=>by omega).mono fun b hb=>by omega
  · exact((k10.trans(kp.mono fun _ _ h=>h.elim)).fresh' k12 fun b hb => .inr hb).trans k13
end Go.Proofs.YticdfkoncnnmmaaGreatDoor
namespace Go.Proofs.YticdfkoncnnmmaaGreatDoor
open Go.X Go.X.Diff Go.MapKept
set_option maxRecDepth 100000
set_option linter.unusedSimpArgs false
set_option linter.unusedVariables false
def kA:Man:=man1 [97]([].map starD)
def kB:Man:=man1 [98]([[99]].map starD)
def kC:Man:=man1 [99]([].map starD)
def k1P:Pk:=(kB,[])
def k2P:Pk:=(kC,[])
def kAsk:AskA:=⟨1,[98],⟨[42],zeroV⟩,9⟩
theorem zXw:kAsk.wf:=⟨by simp[kAsk],⟨zCi,by simp[kAsk]⟩⟩
theorem zU1:putE [] k1P=0∧putL [] k1P=[k1P]:=by
  have h:pkOk k1P=true:=by decide +kernel
  exact⟨by unfold putE;rw[h];rfl,by unfold putL;rw[h];rfl⟩
theorem zU2:putE [k1P] k2P=0∧putL [k1P] k2P=[k1P,k2P]:=by
  have h:pkOk k2P=true:=by decide +kernel
  have h2:[k1P].find?(sameAt k2P.1.name k2P.1.ver)=none:=by
    rw[List.find?_eq_none]
    intro x hx
    rw[List.mem_singleton.1 hx]
    decide +kernel
  exact⟨by unfold putE;rw[h,h2];rfl,by unfold putL;rw[h,h2];rfl⟩
def kHv:List Man:=[kA,kB,kC]
def kWs:List Dep:=[⟨[98],⟨[42],zeroV⟩⟩,⟨[97],⟨[61],⟨[1,0,0],[]⟩⟩⟩]
theorem zXx:rightP [kA]=true:=by decide +kernel
theorem k_ask:askOk kAsk=true:=by decide +kernel
theorem zXy:thereP [kA] [k1P,k2P]=kHv:=by
  have h1:outP [kA] kB=true:=by decide +kernel
  have h2:outP [kA] kC=true:=by decide +kernel
  unfold thereP
  show [kA]++[kB,kC].filter(outP [kA])=_
  rw[List.filter_cons,h1,List.filter_cons,h2];rfl
theorem zXz:wantsP [kA] kAsk.name kAsk.want=kWs:=rfl
theorem k_ok:probOk kHv kWs 9=true:=by decide +kernel
theorem k_run:Run kHv 9(.sol [] kWs)0(.ok [1,0,2])3:=by
  have e1:candF kHv⟨[98],⟨[42],zeroV⟩⟩=[1]:=by decide +kernel
  have e2:candF kHv⟨[97],⟨[61],⟨[1,0,0],[]⟩⟩⟩=[0]:=by decide +kernel
  have e3:candF kHv(starD [99])=[2]:=by decide +kernel
  refine Run.go(d:=⟨[98],⟨[42],zeroV⟩⟩)(ws:=[⟨[97],⟨[61],⟨[1,0,0],[]⟩⟩⟩])(by decide +kernel)?_
  rw[e1]
  refine Run.down(by decide)(by decide +kernel)?_(by simp)
  refine Run.go(d:=⟨[97],⟨[61],⟨[1,0,0],[]⟩⟩⟩)(ws:=[starD [99]])(by decide +kernel)?_
  rw[e2]
  refine Run.down(by decide)(by decide +kernel)?_(by simp)
  refine Run.go(d:=starD [99])(ws:=[])(by decide +kernel)?_
  rw[e3]
  refine Run.down(by decide)(by decide +kernel)?_(by simp)
  exact Run.done
theorem zWi:(sortedF kHv [1,0,2]).map(gM kHv)=kHv:=by
  have h:sortedF kHv [1,0,2]=[0,1,2]:=by decide +kernel
  rw[h];rfl
theorem zYl:rightP kHv=true:=by decide +kernel
theorem zYm:[kA].filter(fun m=>!justP kHv m)=[]:=by
  have h:justP kHv kA=true:=by decide +kernel
  rw[List.filter_cons,h];rfl
theorem k_add:(kHv.filter fun m=>!justP [kA] m)=[kB,kC]:=by
  have h1:justP [kA] kA=true:=by decide +kernel
  have h2:justP [kA] kB=false:=by decide +kernel
  have h3:justP [kA] kC=false:=by decide +kernel
  unfold kHv
  rw[List.filter_cons,h1,List.filter_cons,h2,List.filter_cons,h3];rfl
end Go.Proofs.YticdfkoncnnmmaaGreatDoor
namespace Go.Proofs.YticdfkoncnnmmaaGreatDoor
open Go.X Go.X.Diff Go.MapKept
set_option maxRecDepth 100000
set_option linter.unusedSimpArgs false
set_option linter.unusedVariables false
theorem b_pkg{x:MV}(h:x.1.wf):buildV prg zAs [(0,.agg(mvC x).toArray)]=some(.agg(pvC(x,nilS,[])).toArray):=by
  have k:structK prg zAs=some([(0,8),(8,1)],(pvC zPW).toArray):=by kernel_rfl
  obtain⟨a,b,c,e⟩:=Ver.cases3 h.ver
  obtain⟨⟨n,⟨p,pre⟩,d1,d2,d3⟩,v1,v2,v3⟩:=x
  simp only at e
  subst e
  rw[zDI k];rfl
theorem zXA:buildV prg zEo [(0,.int .i64 1),(1,str [98]),(2,.agg(wantC⟨[42],zeroV⟩).toArray),(3,.int .i64 9)]=some(.agg(askC kAsk).toArray):=by kernel_rfl
theorem bslSS{s:List UInt8}:bslV prg zAu 1 [(0,str s)]=some #[str s]:=bslS
set_option maxHeartbeats 2000000 in
theorem zQu{H:Heap}(hT:VerT H)(hS:ShaT H):HCalls prg zDd [] H fun u H'=>u = .bool true∧Keep(fun _=>False)H H':=by
  apply zJg
  unfold zHq
  have hNG:NG≤H.size:=hS.sz
  have s97:(Value.string⟨#[97]⟩)=str [97]:=rfl
  have s98:(Value.string⟨#[98]⟩)=str [98]:=rfl
  have s99:(Value.string⟨#[99]⟩)=str [99]:=rfl
  have sv1:(Value.string⟨#[49,46,48,46,48]⟩)=str [49,46,48,46,48]:=rfl
  have s42:(Value.string⟨#[42]⟩)=str [42]:=rfl
  rw[s97,s98,s99,sv1,s42]
  have pn:∀ x,binV .ptr .eql(Ptr x 0)(.pointer none)=some(.bool false):=fun x=>rfl
  have ne0:∀ n:Int,binV .no .neq(.int .i64 n)(.int .i64 0)=some(.bool(!decide(n=0))):=fun n=>neI
  refine zAf zUV ?_
  rintro _ h1⟨rfl,q1,k1⟩
  have g1:=k1.1
  rw[pn,zAa]
  refine zAM rfl ?_
  rw[bslSS,zAJ]
  have hr:=zFO(x:=[str [99]])(T:=zAu)(h:=h1)(n:=1)rfl(fun c hc=>by rw[List.mem_singleton.1 hc];rfl)
  have k3:Keep(fun _=>False)h1(h1.push(.cells [str [99]].toArray zAu(0,0))):=Keep.push
  generalize h1.push(.cells [str [99]].toArray zAu(0,0))=h3 at *
  have k03:=k1.trans k3
  refine zAf(zOD(nm:=[98])(ds:=[[99]])(hT.keep k03 fun _ h=>h.elim)(by simp)(by simp)hr(by simp))?_
  rintro _ h4⟨⟨vd,rfl,bd⟩,k4⟩
  have k04:=k03.trans k4
  have g04:=k04.1
  have g34:=k03.1
  have wB:kB.wf:=zNN(by simp)(by simp)
  have wC:kC.wf:=zNN(by simp)(by simp)
  have wA:kA.wf:=zNN(by simp)(by simp)
  let xB:PW:=((kB,vd,nilS,nilS),nilS,[])
  have hxB:PkIn(fun b=>h3.size≤b∧b<h4.size)h4 xB:=⟨⟨bd.sl,SlE.nil,SlE.nil,wB⟩,⟨SlE.nil,fun x hx=>(by cases hx)⟩,(by decide:kB.deps.length≤1000),(by decide:kB.conf.length≤1000),(by decide:kB.files.length≤1000)⟩
  show Mpu(buildV prg zAs [(0,.agg(mvC xB.1).toArray)])_
  rw[b_pkg(x:=xB.1)wB,zAa]
  have q4:=(q1.keep k3 fun _ _=>id).keep k4 fun _ _=>id
  refine zAf(c_Put(x:=xB)q4 hxB(fun b hb=>hb.2)(by simp)(hT.keep k04 fun _ h=>h.elim).ops(hS.keep k04 fun _ h=>h.elim))?_
  rintro _ h5⟨rfl,⟨R5,q5,hR5⟩,k5⟩
  have k05:Keep(fun _=>False)H h5:=k04.fresh k5 fun b e=>by omega
  have g5:=k5.1
  have ep:pkOf xB=k1P:=rfl
  rw[ep,zU1.1,ne0,zAa]
  rw[ep,zU1.2]at q5
  rw[zAd,if_neg(by decide),zAa]
  refine zAM rfl ?_
  refine zAf(zOD(P:=fun _=>False)(nm:=[99])(ds:=[])(hT.keep k05 fun _ h=>h.elim)(by simp)(by simp)SlE.nil(by simp))?_
  rintro _ h8⟨⟨vd2,rfl,bd2⟩,k8⟩
  have k08:=k05.trans k8
  have g8:=k8.1
  let xC:PW:=((kC,vd2,nilS,nilS),nilS,[])
  have hxC:PkIn(fun b=>h5.size≤b∧b<h8.size)h8 xC:=⟨⟨bd2.sl,SlE.nil,SlE.nil,wC⟩,⟨SlE.nil,fun x hx=>(by cases hx)⟩,(by decide:kC.deps.length≤1000),(by decide:kC.conf.length≤1000),(by decide:kC.files.length≤1000)⟩
  show Mpu(buildV prg zAs [(0,.agg(mvC xC.1).toArray)])_
  rw[b_pkg(x:=xC.1)wC,zAa]
  refine zAf(c_Put(x:=xC)(q5.keep k8 fun _ _=>id)hxC(fun b hb=>hb.2)(by simp)(hT.keep k08 fun _ h=>h.elim).ops(hS.keep k08 fun _ h=>h.elim))?_
  rintro _ h9⟨rfl,⟨R9,q9,hR9⟩,k9⟩
  have k09:Keep(fun _=>False)H h9:=k08.fresh k9 fun b e=>by
    rcases hR5 b e with e | e <;> omega
  have g9:=k9.1
  have ep2:pkOf xC=k2P:=rfl
  rw[ep2,zU2.1,ne0,zAa]
  rw[ep2,zU2.2]at q9
  rw[zAd,if_neg(by decide),zAa]
  refine zAM rfl ?_
  refine zAf(zUW q9)?_
  rintro _ _⟨rfl,rfl⟩
  have n2:binV .no .neq(.int .i64(([k1P,k2P].length:Nat):Int))(.int .i64 2)=some(.bool false):=rfl
  rw[n2,zAa]
  show Mpu(pickV(.bool false)(.bool true)(.bool false))_
  rw[zAd,if_neg(by decide),zAa,zAb,if_neg(by decide)]
  refine zAf(zOD(P:=fun _=>False)(nm:=[97])(ds:=[])(hT.keep k09 fun _ h=>h.elim)(by simp)(by simp)SlE.nil(by simp))?_
  rintro _ h14⟨⟨vd3,rfl,bd3⟩,k14⟩
  have k014:=k09.trans k14
  have g14:=k14.1
  have g09:=k09.1
  let xA:MV:=(kA,vd3,nilS,nilS)
  have hmA:ManV(fun b=>h9.size≤b∧b<h14.size)h14 kA vd3 nilS nilS:=⟨bd3.sl,SlE.nil,SlE.nil,wA⟩
  show Mnews h14 zAc 1(bslV prg zAc 1 [(0,.agg(mvC xA).toArray)])_
  rw[zMg(zAw wA),zAJ]
  have hrA:=zFO(x:=mvC xA)(T:=zAc)(h:=h14)(n:=8)(zAw wA)(zCL(x:=xA)hmA)
  have k15:Keep(fun _=>False)h14(h14.push(.cells(mvC xA).toArray zAc(0,0))):=Keep.push
  have s15:(h14.push(.cells(mvC xA).toArray zAc(0,0))).size=h14.size+1:=by simp
  generalize h14.push(.cells(mvC xA).toArray zAc(0,0))=h15 at *
  have k015:=k014.trans k15
  have hp:MLst(fun b=>h9.size≤b∧b<h15.size)h15(.slice(some⟨h14.size,0,none⟩)1 1) [xA]:=⟨hrA.mono fun b hb=>by omega,fun x hx=>by
    rw[List.mem_singleton.1 hx]
    exact(hmA.keep k15 fun _ _=>id).mono fun b hb=>by omega,fun x hx=>by rw[List.mem_singleton.1 hx];exact⟨(by decide:kA.deps.length≤1000),(by decide:kA.conf.length≤1000)⟩⟩
  rw[b_W,zAa,zXA,zAa]
  refine zAf(zXv hp((q9.keep k14 fun _ _=>id).keep k15 fun _ _=>id)(fun b hb=>hb.2)zXw rfl(by simp)(hT.keep k015 fun _ h=>h.elim).ops(by have:=k015.1;omega))?_
  rintro u h16⟨hu,k16⟩
  have k016:=k015.trans k16
  have hin:hvOf [xA]=[kA]:=rfl
  rw[hin]at hu
  have good:(rightP [kA] && askOk kAsk)=true:=by rw[zXx,k_ask];rfl
  have hno:[kA].find?(fun m=>decide(m.name=kAsk.name))=none:=by decide +kernel
  obtain⟨n0,z,col,d,s,t,dr,ad,af,rfl,hz,hc,e1,e2,e3⟩:∃ n0 z col d s t dr ad af,u = .tuple #[.agg(chC 1 d s t).toArray,.int .i64 0]∧h15.size≤z∧ChI n0 z 1 col d s t dr ad af h16∧dr.length=0∧ad.length=2∧af.length=3:=by
    rcases hu with⟨h,_⟩ | ⟨_,⟨h,_⟩ | ⟨_,h⟩⟩
    · rw[good]at h;cases h
    · rw[hno]at h;cases h
    · rw[zXy,zXz]at h
      rcases h with⟨h,_⟩ | ⟨_,r,st,hrun,h⟩
      · rw[show kAsk.bound=9 from rfl,k_ok]at h;cases h
      · obtain⟨rfl,rfl⟩:=Run.det hrun k_run
        simp only at h
        rw[zWi]at h
        rcases h with⟨h,_⟩ | ⟨_,n0,z,col,d,s,t,dr,ad,af,rfl,h2,h3,h4,h5,h6⟩
        · rw[zYl]at h;cases h
        · rw[zYm]at h4
          rw[k_add]at h5
          refine⟨n0,z,col,d,s,t,dr,ad,af,rfl,h2,h3,?_,?_,?_⟩
          · have:=congrArg List.length h4;simpa using this
          · have:=congrArg List.length h5;simpa using this
          · have:=congrArg List.length h6;simpa [kHv] using this
  have x0:∀ a b:Value,extV 0(.tuple #[a,b])=some a:=fun _ _=>rfl
  have x1:∀ a b:Value,extV 1(.tuple #[a,b])=some b:=fun _ _=>rfl
  rw[x0,zAa,x1,zAa]
  simp only[zOC,zAp]
  generalize hH17:h16.push(.cells(chC 0 nilS nilS nilS).toArray zAK(0,0))=h17
  have k17:Keep(fun _=>False)h16 h17:=by rw[← hH17];exact Keep.push
  have a17:At h17 h16.size(chC 0 nilS nilS nilS):=by rw[← hH17];exact At.push
  obtain⟨h18,st18,a18,k18⟩:=a17.st(n:=4)(ds:=chC 1 d s t)rfl rfl(zKB hc.bd.sl.oneC hc.bs.sl.oneC hc.bt.sl.oneC)
  have g016:=k016.1
  have k018:=(k016.trans k17).fresh k18 fun b e=>by omega
  have ls:=hc.bs.sl.len
  have ld:=hc.bd.sl.len
  have lt:=hc.bt.sl.len
  rw[List.length_map,e2]at ls
  rw[List.length_map,e1]at ld
  rw[List.length_map,e3]at lt
  simp only[zAq,Nat.zero_add,zAa]
  rw[st18,zAi]
  have z0:binV .no .eql(.int .i64 0)(.int .i64 0)=some(.bool true):=rfl
  have z2:binV .no .eql(.int .i64((2:Nat):Int))(.int .i64 2)=some(.bool true):=rfl
  have z00:binV .no .eql(.int .i64((0:Nat):Int))(.int .i64 0)=some(.bool true):=rfl
  have z3:binV .no .eql(.int .i64((3:Nat):Int))(.int .i64 3)=some(.bool true):=rfl
  rw[z0,zAa]
  refine zAM rfl ?_
  rw[a18.ld(i:=2)rfl,zAa,ls,zAa,z2,zAa]
  show Mpu(pickV(.bool true)(.bool true)(.bool false))_
  rw[zAd,if_pos rfl,zAa]
  refine zAM rfl ?_
  rw[a18.ld(i:=1)rfl,zAa,ld,zAa,z00,zAa]
  show Mpu(pickV(.bool true)(.bool true)(.bool false))_
  rw[zAd,if_pos rfl,zAa]
  refine zAM rfl ?_
  rw[a18.ld(i:=3)rfl,zAa,lt,zAa,z3,zAa]
  show Mpu(pickV(.bool true)(.bool true)(.bool false))_
  rw[zAd,if_pos rfl,zAa]
  exact⟨rfl,k018⟩
end Go.Proofs.YticdfkoncnnmmaaGreatDoor
