import Derived.Test.YticdfkoncnnmmaaGreatDoorHG
import Derived.Test.YticdfkoncnnmmaaGreatDoorHB
import Derived.Test.YticdfkoncnnmmaaGreatDoorHA
set_option linter.unusedSimpArgs false
set_option linter.unusedVariables false
namespace Go.Proofs.YticdfkoncnnmmaaGreatDoor
open Go.X Go.X.Diff
set_option maxRecDepth 100000
set_option linter.unusedSimpArgs false
set_option linter.unusedVariables false
def itemP(m:Man):Item:=⟨m.name,m.ver,shaF(0 :: leafB m)⟩
theorem zR3{m:Man}(w:m.wf):(itemP m).wf:=⟨w.ver,zC3,w.name⟩
theorem zS5{n s:List UInt8}{x:Ver}(hx:x.wf)(hs:s.length=32):buildV prg zAO [(0,str n),(1,.agg(verC x).toArray),(2,bv s)]=some(.agg(itemC⟨n,x,s⟩).toArray):=by
  have k:structK prg zAO=some([(0,1),(1,4),(5,32)],(itemC⟨[],zeroV,List.replicate 32 0⟩).toArray):=by kernel_rfl
  obtain⟨a,b,c,e⟩:=Ver.cases3 hx
  obtain⟨p,pre⟩:=x
  simp only at e
  subst e
  have hz:(itemC⟨[],zeroV,List.replicate 32 0⟩).toArray.size=37:=by simp[itemC,verC,zeroV]
  have c1:(str n).cells.size=1:=rfl
  have c2:(Value.agg(verC⟨[a,b,c],pre⟩).toArray).cells.size=4:=rfl
  have c3:(bv s).cells.size=32:=by show(bcells s).toArray.size=32;simp[hs]
  have t1:(spl(itemC⟨[],zeroV,List.replicate 32 0⟩).toArray 0(str n).cells).size=37:=by rw[zGn(by omega),hz]
  have t2:(spl(spl(itemC⟨[],zeroV,List.replicate 32 0⟩).toArray 0(str n).cells)1(Value.agg(verC⟨[a,b,c],pre⟩).toArray).cells).size=37:=by rw[zGn(by omega),t1]
  rw[zDI k,zEr(off:=0)(n:=1)rfl rfl(by omega),zEr(off:=1)(n:=4)rfl rfl(by omega),zEr(off:=5)(n:=32)rfl c3(by omega),zNg]
  have hl:(spl(spl(spl(itemC⟨[],zeroV,List.replicate 32 0⟩).toArray 0(str n).cells)1(Value.agg(verC⟨[a,b,c],pre⟩).toArray).cells)5(bv s).cells)=(itemC⟨n,⟨[a,b,c],pre⟩,s⟩).toArray:=by
    apply Array.ext'
    show _=str n :: ([Value.int .i64 a,.int .i64 b,.int .i64 c,str pre]++bcells s)
    have e3:(bv s).cells=(bcells s).toArray:=rfl
    have e1:(spl(spl(itemC⟨[],zeroV,List.replicate 32 0⟩).toArray 0(str n).cells)1(Value.agg(verC⟨[a,b,c],pre⟩).toArray).cells).toList=[str n,.int .i64 a,.int .i64 b,.int .i64 c,str pre]++bcells(List.replicate 32 0):=rfl
    unfold spl at e1 ⊢
    rw[e3]
    simp only[List.size_toArray]at e1 ⊢
    rw[e1]
    simp[hs]
  rw[hl];rfl
theorem zU6{x:Item}(h:x.wf):bslV prg zAO 1 [(0,.agg(itemC x).toArray)]=some(itemC x).toArray:=by
  obtain⟨z,hz,hzl⟩:=zXP
  exact zNH(by kernel_rfl:prg.cellsOf zAO=37)(by omega)(by omega)hz(by simpa using hzl)(by simp[zNs h])
theorem zXC{P:Nat→Prop}{H:Heap}{v:Value}{mv:List MV}(hp:MLst P H v mv)(hP:∀ b,P b→b<H.size)(hl:mv.length≤1000)(hO:OpsT H)(hT:PowT H)(hS:ShaT H) :
    HCalls prg zKI [v] H fun u H'=>BufE 37(fun b=>H.size≤b∧b<H'.size)H' u((mv.map fun x=>itemP x.1).map itemC)∧Keep(fun _=>False)H H':=by
  apply zM0
  unfold zMS
  let I:Nat→Value→Heap→Prop:=fun i w h=>BufE 37(fun b=>H.size≤b∧b<h.size)h w(((mv.take i).map fun x=>itemP x.1).map itemC)∧Keep(fun _=>False)H h
  refine J2_i(fun w _ h=>I mv.length w h)(fun k1 hk1=>?_)?_
  rotate_left
  · rintro w _ h⟨b,k⟩
    rw[List.take_of_length_le(Nat.le_refl _)]at b
    exact⟨b,k⟩
  rw[hp.len,zAa]
  refine L2_i(fun w z h=>∃ i:Nat,i≤mv.length∧z = .int .i64(i:Nat)∧I i w h)(fun _ z _=>match z with | .int _ t=>mv.length - t.toNat | _=>0)⟨0,Nat.zero_le _,rfl,BufE.nil,Keep.refl⟩?_
  rintro t5 _ h4⟨i,hi,rfl,b4,k4⟩k3 hk3
  have g4:=k4.1
  rw[ltNn,zAa,zAb]
  by_cases hlt:i<mv.length
  rotate_left
  · rw[if_neg(by simpa using hlt)]
    obtain rfl:i=mv.length:=by omega
    exact hk1 _ _ _⟨b4,k4⟩
  rw[if_pos(by simpa using hlt)]
  have hg:mv[i]? = some mv[i]:=List.getElem?_eq_getElem hlt
  have hm:=List.getElem_mem hlt
  generalize mv[i]=x at *
  obtain⟨hmx,b,o,hix,hpt,_⟩:=(hp.keep k4 fun _ _=>id).at hg
  have w:=hmx.wf
  have hsx:=hp.sm x hm
  rw[hix .i64,zAa,zD4 hpt w,zAa]
  simp only[zFg,zAp,zAq,Nat.zero_add,Nat.add_zero,zAa]
  generalize hH7:h4.push(.cells(manC⟨[],zeroV,[],[],[]⟩nilS nilS nilS).toArray zAc(0,0))=h7
  have k7:Keep(fun _=>False)h4 h7:=by rw[← hH7];exact Keep.push
  have a7:At h7 h4.size(manC⟨[],zeroV,[],[],[]⟩nilS nilS nilS):=by rw[← hH7];exact At.push
  obtain⟨h8,st8,a8,k8⟩:=a7.st(n:=8)(ds:=mvC x)(zAw zM_wf)(zAw w)(zCL hmx)
  have k48:Keep(fun _=>False)h4 h8:=k7.fresh k8 fun b hb=>by omega
  have k08:=k4.trans k48
  have g08:=k08.1
  rw[st8,zAi,zAV a8,zAa,zCq a8 w,zAa,a8.ldN(zAw w),zAa]
  refine zAf(zQw(hmx.keep k48 fun _ _=>id)(fun b hb=>by have:=hP b hb;omega)(by omega)(by omega)(hO.keep k08 fun _ h=>h.elim)(hT.keep k08 fun _ h=>h.elim))?_
  rintro t18 h9⟨sl,k9⟩
  have a9:=a8.keep k9 id
  rw[zCq a9 w,zAV a9,zAo,zAo,zAm]
  have hln:=zND w.files fun h=>zOE w h(by omega)(by omega)
  have k09:=k08.trans k9
  refine zAf(zQv sl(hS.keep k09 fun _ h=>h.elim)(fun b hb=>hb.2)(by omega))?_
  rintro _ h10⟨rfl,k10⟩
  have a10:=a9.keep k10 id
  have k410:=(k48.trans k9).trans k10
  rw[zCq a10 w,zAV a10,zAo,zAo,zAm,zS5 w.ver zC3,zAa]
  have hw:=zR3 w
  show Mnews h10 zAO 1(bslV prg zAO 1 [(0,.agg(itemC(itemP x.1)).toArray)])_
  rw[zU6 hw,zAJ]
  have hr:=zFO(x:=itemC(itemP x.1))(T:=zAO)(h:=h10)(n:=37)(zNs hw)zUa
  have kp:Keep(fun _=>False)h10(h10.push(.cells(itemC(itemP x.1)).toArray zAO(0,0))):=Keep.push
  have gp:=kp.1
  have k4p:=k410.trans kp
  have g4p:=k4p.1
  refine((b4.keep k4p fun _ _=>id).mono(G:=fun b=>H.size≤b)fun b hb=>hb.1).app hr(by omega)(by rw[List.length_map,List.length_map,List.length_take,List.length_singleton];omega)(by show H.size≤_;omega)fun t h11 b11 k11=>?_
  rw[zAv(by omega),zAa]
  refine hk3 _ _ _⟨i+1,by omega,rfl,?_,(k4.trans k4p).fresh k11 fun b hb=>hb⟩(by show mv.length - (i+1)<mv.length - i;omega)
  rw[show mv.take(i+1)=mv.take i++[x] by rw[List.take_add_one,hg];rfl,List.map_append,List.map_append]
  exact BufE.re b11 fun b hb hF=>⟨hF,hb⟩
end Go.Proofs.YticdfkoncnnmmaaGreatDoor
namespace Go.Proofs.YticdfkoncnnmmaaGreatDoor
open Go.X Go.X.Diff
set_option maxRecDepth 100000
abbrev No:Nat→Prop:=fun _=>False
theorem or_i{a:Bool}{H:Heap}{yes:(Value→Heap→Prop)→Prop}{K:Value→Value→Heap→Prop}(ht:a=true→K undef(.bool true)H)(hf:a=false→yes fun t h=>K t t h) :
    J1(fun k=>Mif(.bool a)false(yes k)(k undef H))fun t h=>Mpu(pickV(.bool a)(.bool true)t)fun u=>K t u h:=by
  cases a
  · have e:(fun t h=>Mpu(pickV(.bool false)(.bool true)t)fun u=>K t u h)=fun t h=>K t t h:=by
      funext t h;exact propext zAa
    rw[e];exact zAM rfl(hf rfl)
  · exact J1_no(by decide)(zAa.2(ht rfl))
theorem mcd_t{a:Bool}{yes no:Prop}(h:a=true)(k:yes):Mcd(.bool a)yes no:=by subst h;exact zAb.2(by rw[if_pos rfl];exact k)
theorem mcd_f{a:Bool}{yes no:Prop}(h:a=false)(k:no):Mcd(.bool a)yes no:=by subst h;exact zAb.2(by rw[if_neg(by decide)];exact k)
theorem mcd_i{a:Bool}{yes no:Prop}(h:a=true→yes)(k:a=false→no):Mcd(.bool a)yes no:=by
  cases a
  · exact mcd_f rfl(k rfl)
  · exact mcd_t rfl(h rfl)
theorem mpu_i{o:Option Value}{v:Value}{K:Value→Prop}(h:o=some v)(k:K v):Mpu o K:=⟨v,h,k⟩
theorem range_i{v:Value}{n:Nat}{H:Heap}{B:(Value→Heap→Prop)→(Value→Heap→Prop)→Value→Heap→Prop}{R:Value→Heap→Prop}(hl:lenV v=some(.int .i64(n:Nat)))(I:Nat→Heap→Prop)(E:Heap→Prop)(h0:I 0 H)(hE:∀ h,I n h→E h)
    (hs:∀ i h,i<n→I i h→∀ k1 k3:Value→Heap→Prop,(∀ t h',E h'→k1 t h')→(∀ h',I(i+1)h'→k3(.int .i64((i+1:Nat):Int))h')→B k1 k3(.int .i64(i:Nat))h)(hr:∀ t h,E h→R t h) :
    J1(fun k1=>Mpu(lenV v)fun m=>L1(fun k3 t h=>Mpu(binV .no .lss t m)fun c=>Mcd c(B k1 k3 t h)(k1 t h))(.int .i64 0)H)R:=by
  refine J1_i(fun _ h=>E h)(fun k1 hk1=>?_)hr
  rw[hl,zAa]
  refine L1_i(fun u h=>∃ i:Nat,i≤n∧u = .int .i64(i:Nat)∧I i h)(fun u _=>match u with | .int _ t=>n - t.toNat | _=>0)⟨0,Nat.zero_le _,rfl,h0⟩?_
  rintro _ h⟨i,hi,rfl,hI⟩k3 hk3
  rw[ltNn,zAa,zAb]
  by_cases hlt:i<n
  · rw[if_pos(by simpa using hlt)]
    exact hs i h hlt hI k1 k3 hk1 fun h' hI'=>hk3 _ _⟨i+1,by omega,rfl,hI'⟩(by show n - (i+1)<n - i;omega)
  · rw[if_neg(by simpa using hlt)]
    obtain rfl:i=n:=by omega
    exact hk1 _ _(hE _ hI)
theorem zYn{n:Nat}{H:Heap}{B:(Value→Heap→Prop)→Value→Heap→Prop}{X:Value→Heap→Prop}(I:Nat→Heap→Prop)(h0:I 0 H)(hr:∀ h,I n h→X(.int .i64(n:Nat))h)
    (hs:∀ i h,i<n→I i h→∀ k3:Value→Heap→Prop,(∀ h',I(i+1)h'→k3(.int .i64((i+1:Nat):Int))h')→B k3(.int .i64(i:Nat))h) :
    L1(fun k3 t h=>Mpu(binV .no .lss t(.int .i64(n:Nat)))fun c=>Mcd c(B k3 t h)(X t h))(.int .i64 0)H:=by
  refine L1_i(fun u h=>∃ i:Nat,i≤n∧u = .int .i64(i:Nat)∧I i h)(fun u _=>match u with | .int _ t=>n - t.toNat | _=>0)⟨0,Nat.zero_le _,rfl,h0⟩?_
  rintro _ h⟨i,hi,rfl,hI⟩k3 hk3
  rw[ltNn,zAa,zAb]
  by_cases hlt:i<n
  · rw[if_pos(by simpa using hlt)]
    exact hs i h hlt hI k3 fun h' hI'=>hk3 _ _⟨i+1,by omega,rfl,hI'⟩(by show n - (i+1)<n - i;omega)
  · rw[if_neg(by simpa using hlt)]
    obtain rfl:i=n:=by omega
    exact hr _ hI
theorem zR4{i n:Nat}{K:Value→Prop}(hi:i<n)(hn:n≤9223372036854775807)(h:K(.int .i64((i+1:Nat):Int))):Mpu(binV .no .add(.int .i64(i:Nat))(.int .i64 1))K:=by
  have e:binV .no .add(.int .i64(i:Nat))(.int .i64 1)=some(.int .i64((i+1:Nat):Int)):=by
    rw[zAg];simp only[intV];rw[zAx(by omega)(by omega)];rfl
  rw[e,zAa];exact h
theorem cp_i{n:Nat}{T:TypeId}{P:Nat→Prop}{h:Heap}{v:Value}{xs:List(List Value)}{c:List Value}{i:Nat}{zc:Option(Array Value)}{z:List Value}{K:Value→Heap→Prop}(hv:SlE n P h v xs)(hi:xs[i]? = some c)(hz:zc=some z.toArray)(hzl:z.length=n)
    (hk:∀ h',At h' h.size c→Keep No h h'→K(Ptr h.size 0)h'):Mpu(ixS n v(.int .i64(i:Nat)))fun p=>Mpu(ldN n h p)fun a=>Mnew h T zc fun t h7=>Mwr(stN n h7 t a)fun h8=>K t h8:=by
  have hm:=List.mem_of_getElem? hi
  obtain⟨b,o,hix,hpt,_⟩:=hv.at hi
  rw[hix .i64,zAa,hpt.agg(hv.el c hm),zAa,hz,zAp]
  have k7:Keep No h(h.push(.cells z.toArray T(0,0))):=Keep.push
  obtain⟨h8,st8,a8,k8⟩:=(At.push(cs:=z)(T:=T)(h:=h)).st(n:=n)(ds:=c)hzl(hv.el c hm)(hv.one c hm)
  show Mwr(stN n _(Ptr h.size 0)_)_
  rw[st8,zAi]
  exact hk h8 a8(k7.fresh k8 fun b e=>by omega)
theorem J5_j{body:(Value→Value→Value→Value→Value→Heap→Prop)→Prop}{rest:Value→Value→Value→Value→Value→Heap→Prop}(I:Heap→Prop)(h1:∀ k:Value→Value→Value→Value→Value→Heap→Prop,(∀ a b c d e h,I h→k a b c d e h)→body k)(h2:∀ a b c d e h,I h→rest a b c d e h):J5 body rest :=
  J5_eq.2(h1 rest h2)
end Go.Proofs.YticdfkoncnnmmaaGreatDoor
namespace Go.Proofs.YticdfkoncnnmmaaGreatDoor
open Go.X Go.X.Diff
set_option maxRecDepth 100000
set_option linter.unusedSimpArgs false
set_option linter.unusedVariables false
structure MLst0(P:Nat→Prop)(H:Heap)(v:Value)(mv:List MV):Prop where
  h:SlE 8 P H v(mv.map mvC)
  m:∀ x ∈ mv,ManV P H x.1 x.2.1 x.2.2.1 x.2.2.2
  hl:mv.length≤9223372036854775807
theorem MLst0.keep{P S:Nat→Prop}{H H':Heap}{v:Value}{mv:List MV}(h:MLst0 P H v mv)(k:Keep S H H')(hs:∀ b,P b→¬ S b):MLst0 P H' v mv:=⟨h.h.keep k hs,fun x hx=>(h.m x hx).keep k hs,h.hl⟩
def small1(x:MV):Prop:=x.1.name.length≤50∧x.1.ver.pre.length≤50∧x.1.deps.length≤8∧x.1.conf.length≤8∧x.1.files.length≤8
def smallG(mv:List MV):Prop:=∀ x ∈ mv,small1 x
theorem MLst0.to{P:Nat→Prop}{H:Heap}{v:Value}{mv:List MV}(h:MLst0 P H v mv)(hs:smallG mv):MLst P H v mv:=⟨h.h,h.m,fun x hx=>by have:=hs x hx;unfold small1 at this;omega⟩
theorem MLst0.len{P:Nat→Prop}{H:Heap}{v:Value}{mv:List MV}(h:MLst0 P H v mv):lenV v=some(.int .i64(mv.length:Nat)):=by have:=h.h.len;rwa [List.length_map]at this
theorem zNE{α β:Type}{f:α→β}{l:List α}{i:Nat}{x:α}(h:l[i]? = some x):(l.map f)[i]? = some(f x):=by rw[List.getElem?_map,h];rfl
theorem gtI50{n m:Nat}:binV .no .gtr(.int .i64(n:Nat))(.int .i64((m:Nat):Int))=some(.bool(decide(n > m))):=gtNn
theorem ex_lt{α:Type}{l:List α}{i:Nat}(h:i<l.length):∃ x,l[i]? = some x∧x ∈ l:=⟨l[i],List.getElem?_eq_getElem h,List.getElem_mem h⟩
theorem zWj{α:Type}{l:List α}{p:α→Prop}(h:∀ x ∈ l.take l.length,p x):∀ x ∈ l,p x:=by rwa [List.take_length]at h
theorem zU7{α:Type}{l:List α}{i:Nat}{x:α}{p:α→Prop}(hx:l[i]? = some x)(h:∀ y ∈ l.take i,p y)(hp:p x):∀ y ∈ l.take(i+1),p y:=by
  intro y hy
  rw[List.take_add_one,hx]at hy
  rcases List.mem_append.1 hy with hy | hy
  · exact h y hy
  · obtain rfl:y=x:=by simpa using hy
    exact hp
theorem zU8{P:Nat→Prop}{H:Heap}{v:Value}{mv:List MV}{most:Nat}(hp:MLst0 P H v mv) :
    HCalls prg zE0 [v,.int .i64(most:Nat)] H fun u H'=>(∃ b,u = .bool b∧(b=true→smallG mv∧mv.length≤most))∧Keep No H H':=by
  apply zJf
  unfold zHp
  refine range_i hp.len(fun i h=>(∀ x ∈ mv.take i,small1 x)∧Keep No H h)(fun h=>smallG mv∧Keep No H h)⟨by simp,Keep.refl⟩(fun h hI=>⟨zWj hI.1,hI.2⟩)?_ ?_
  rotate_left
  · rintro _ h⟨hs,k⟩
    rw[hp.len,zAa,leNn',zAa]
    exact⟨⟨_,rfl,fun e=>⟨hs,of_decide_eq_true e⟩⟩,k⟩
  rintro i h hlt⟨hall,kh⟩k1 k3 _ hk3
  obtain⟨x,hx,hm⟩:=ex_lt hlt
  have hmx:=hp.m x hm
  have w:=hmx.wf
  refine J5_j(fun h'=>small1 x∧Keep No h h')(fun k5 hk5=>?_)?_
  rotate_left
  · rintro _ _ _ _ _ h'⟨hs,k'⟩
    exact zR4 hlt hp.hl(hk3 _⟨zU7 hx hall hs,kh.trans k'⟩)
  refine cp_i(hp.keep kh fun _ _=>id).h(zNE hx)zFg(zAw zM_wf)fun h8 a8 k8=>?_
  have bad:(∃ b,Value.bool false = .bool b∧(b=true→smallG mv∧mv.length≤most))∧Keep No H h8:=⟨⟨_,rfl,fun e=>by cases e⟩,kh.trans k8⟩
  have a8':At h8 h.size(manC x.1 x.2.1 x.2.2.1 x.2.2.2):=a8
  obtain⟨g5,g6,g7⟩:=zCr a8' w
  have l1:=(hmx.d.keep(kh.trans k8)fun _ _=>id).len
  have l2:=(hmx.c.keep(kh.trans k8)fun _ _=>id).len
  have hf:=(hmx.keep(kh.trans k8)fun _ _=>id).f
  have l3:=hf.len
  rw[List.length_map]at l1 l2 l3
  have b8:∀ n:Nat,binV .no .gtr(.int .i64(n:Nat))(.int .i64 8)=some(.bool(decide(n > 8))):=fun n=>gtI50(m:=8)
  have b50:∀ n:Nat,binV .no .gtr(.int .i64(n:Nat))(.int .i64 50)=some(.bool(decide(n > 50))):=fun n=>gtI50(m:=50)
  simp only[zAq,Nat.zero_add,Nat.add_zero,zAa,zAV a8',zW5 a8' w,g5,g6,g7,l1,l2,l3,zBI,b8,b50]
  refine or_i(fun q=>or_i(fun _=>or_i(fun _=>or_i(fun _=>mcd_t rfl bad)nofun)nofun)nofun)fun q1=>?_
  refine or_i(fun q=>or_i(fun _=>or_i(fun _=>mcd_t rfl bad)nofun)nofun)fun q2=>?_
  refine mpu_i g5(mpu_i l1(mpu_i(b8 _)?_))
  refine or_i(fun q=>or_i(fun _=>mcd_t rfl bad)nofun)fun q3=>?_
  refine mpu_i g6(mpu_i l2(mpu_i(b8 _)?_))
  refine or_i(fun q=>mcd_t rfl bad)fun q4=>?_
  refine mpu_i g7(mpu_i l3(mpu_i(b8 _)(mcd_i(fun _=>bad)fun q5=>?_)))
  have hs1:small1 x:=by
    rw[decide_eq_false_iff_not]at q1 q2 q3 q4 q5
    unfold small1;omega
  refine mpu_i g7(mpu_i l3(zYn(fun _ h'=>Keep No h8 h')Keep.refl(fun h' k'=>hk5 _ _ _ _ _ _⟨hs1,k8.trans k'⟩)?_))
  intro j h' hj k' k17 hk17
  obtain⟨f,hfx,hfm⟩:=ex_lt hj
  have wf:=w.files f hfm
  refine cp_i(hf.keep k' fun _ _=>id)(zNE hfx)zRt(zA3 zOv)fun h9 a9 k9=>?_
  have k09:=(kh.trans k8).trans(k'.trans k9)
  have bad:(∃ b,Value.bool false = .bool b∧(b=true→smallG mv∧mv.length≤most))∧Keep No H h9:=⟨⟨_,rfl,fun e=>by cases e⟩,k09⟩
  have f1:ld1 h9(Ptr h'.size 0)=some(str f.name):=zW3 a9.pt
  have f2:ld1 h9(Ptr h'.size 33)=some(.int .i64 f.size):=by have:=zPB a9.pt wf;rwa [Nat.zero_add]at this
  have e80:binV .no .gtr(.int .i64(f.name.length:Nat))(.int .i64 80)=some(.bool(decide(f.name.length > 80))):=gtI50(m:=80)
  have e3:binV .no .gtr(.int .i64 f.size)(.int .i64 300)=some(.bool(decide(f.size > 300))):=by rw[zAg];rfl
  simp only[zAq,Nat.zero_add,Nat.add_zero,zAa,f1,zBI,e80]
  refine or_i(fun q=>mcd_t rfl bad)fun q1=>mpu_i f2(mpu_i e3(mcd_i(fun _=>bad)fun q2=>?_))
  exact zR4 hj(by have:=hs1.2.2.2.2;omega)(hk17 _(k'.trans k9))
end Go.Proofs.YticdfkoncnnmmaaGreatDoor
