import Derived.Test.YticdfkoncnnmmaaGreatDoorG7
import Derived.Test.YticdfkoncnnmmaaGreatDoorG5
import Derived.MapKept
import Derived.Maps.RangeRun
set_option linter.unusedSimpArgs false
set_option linter.unusedVariables false
namespace Go.Proofs.YticdfkoncnnmmaaGreatDoor
open Go.X Go.X.Diff
set_option maxRecDepth 100000
theorem zXb{c:Array Value}{o j n:Nat}{x:List Value}{w:Value}(hx:x.length=n)(hle:o+n≤c.size)(hj:j<n)(hc:(c.toList.drop o).take n=x):spl c o(x.set j w).toArray=c.setIfInBounds(o+j)w:=by
  apply Array.ext'
  rw[Array.toList_setIfInBounds]
  unfold spl
  show List.take o c.toList++x.set j w++List.drop(o+(x.set j w).toArray.size)c.toList=_
  have hsz:(x.set j w).toArray.size=n:=by simp[hx]
  rw[hsz]
  have e:c.toList=List.take o c.toList++(x++List.drop(o+n)c.toList):=by
    rw[← hc,← List.drop_drop,List.take_append_drop,List.take_append_drop]
  have hlt:(List.take o c.toList).length=o:=by rw[List.length_take];simp;omega
  conv=>rhs;rw[e]
  rw[List.set_append_right _ _(by rw[hlt];omega),hlt,Nat.add_sub_cancel_left,List.set_append_left _ _(by omega),List.append_assoc]
theorem _root_.Go.X.BufE.st{n:Nat}{F:Nat→Prop}{H:Heap}{v:Value}{xs:List(List Value)}(h:BufE n F H v xs){i j:Nat}{x:List Value}(hi:xs[i]? = some x)(hj:j<n){w:Value}(hw:w.oneCell'=true) :
    ∃ b o H',(∀ k,ixS n v(.int k i)=some(Ptr b o))∧Pt H b o x∧st1 H(Ptr b(o+j))w=some H'∧BufE n F H' v(xs.set i(x.set j w))∧Keep F H H':=by
  obtain⟨hlt,hxe⟩:=List.getElem?_eq_some_iff.1 hi
  have hxl:x.length=n:=h.1 x(by rw[← hxe];exact List.getElem_mem _)
  have hx1:∀ c ∈ x,c.oneCell'=true:=h.2.1 x(by rw[← hxe];exact List.getElem_mem _)
  have h1:∀ c ∈ x.set j w,c.oneCell'=true:=fun c hc=>by
    rcases List.mem_or_eq_of_mem_set hc with hc | rfl
    · exact hx1 c hc
    · exact hw
  obtain⟨p,H',hip,hst,hb,hk⟩:=h.set hlt(x:=x.set j w)(by simp[hxl])h1
  obtain⟨b,o,hib,hpt,_⟩:=h.sl.at hi
  have hpe:p=Ptr b o:=Option.some.inj((hip .i64).symm.trans(hib .i64))
  subst hpe
  refine⟨b,o,H',hib,hpt,?_,hb,hk⟩
  obtain⟨c,T,f,hbb,hle,hc⟩:=hpt
  simp only[stN]at hst
  rw[if_pos(by simp[hxl])]at hst
  unfold stA at hst
  rw[hbb]at hst
  simp only at hst
  split at hst
  · rename_i hcnd
    obtain⟨c1,c2,c3⟩:=hcnd
    simp only[st1,hbb]
    have hth:thaw f(o+j)1=true:=by
      unfold thaw at c2 ⊢
      simp only[List.size_toArray,List.length_set,hxl,Bool.or_eq_true,decide_eq_true_eq]at c2 ⊢
      omega
    rw[if_pos⟨by omega,hth,hw⟩,← hst]
    rw[hxl]at hc hle
    rw[zXb hxl hle hj hc]
  · cases hst
theorem zQj{P:Program}{T:TypeId}{H:Heap}{k:Value→Heap→Prop}(hk:k(.map(some H.size))(H.push(.map #[] 0))):Msem P(Instr.makeMap T none)H k:=fun w hw=>by
  subst hw
  refine⟨.map(some w.heap.size),{ w with heap:=w.heap.push(.map #[] 0) },?_,⟨rfl,rfl,rfl,Solid.push⟩,hk⟩
  simp[Instr.makeMap]
def MapAt(H:Heap)(q:Nat)(es:List(Value×Value)):Prop:=∃ (arr:Array MapEntry)(clock:Nat),H[q]? = some(.map arr clock)∧arr.toList.map(fun e=>(e.key,e.val))=es∧(∀ e ∈ arr.toList,e.born<clock)∧(arr.toList.map(·.born)).Nodup
theorem MapAt.keep{H H':Heap}{q:Nat}{es:List(Value×Value)}{S:Nat→Prop}(h:MapAt H q es)(k:Keep S H H')(hs:¬ S q):MapAt H' q es:=by
  obtain⟨a,c,h1,h2⟩:=h
  exact⟨a,c,k.at h1 hs,h2⟩
theorem MapAt.new{H:Heap}:MapAt(H.push(.map #[] 0))H.size []:=⟨#[],0,zAA,rfl,(fun e h=>by cases h),List.nodup_nil⟩
end Go.Proofs.YticdfkoncnnmmaaGreatDoor
namespace Go.Proofs.YticdfkoncnnmmaaGreatDoor
open Go.X Go.X.Diff Go.MapKept
set_option maxRecDepth 100000
def MapT(P:Program)(mty:TypeId)(d:TypeDesc)(z:Value):Prop:=∃ kt et,P.underlying mty=some(.map kt et)∧P.underlying kt=some d∧∀ w:World,(zeroValue et).run P w = .ok z w
def mres(ok:Bool)(v:Value)(b:Bool):Value:=if ok then .tuple #[v,.bool b] else v
theorem zPc{arr:Array MapEntry}{es:List(Value×Value)}(h:arr.toList.map(fun e=>(e.key,e.val))=es){j:Nat}{e:MapEntry}(hj:arr.toList[j]? = some e):es[j]? = some(e.key,e.val):=by
  rw[← h,List.getElem?_map,hj];rfl
theorem zRA{P:Program}{mty:TypeId}{d:TypeDesc}{z key:Value}{ok:Bool}{H:Heap}{q:Nat}{es:List(Value×Value)}{k:Value→Heap→Prop}(hT:MapT P mty d z)(hm:MapAt H q es)(hks:∀ x ∈ es,IsKey d x.1)(hk:IsKey d key)
    (h1:∀ v,(key,v) ∈ es→k(mres ok v true)H)(h2:(∀ x ∈ es,x.1≠key)→k(mres ok z false)H):Msem P(Instr.lookup mty(.map(some q))key ok)H k:=fun w hw=>by
  subst hw
  obtain⟨kt,et,t1,t2,t3⟩:=hT
  obtain⟨arr,clock,hb,he,hbn,hnd⟩:=hm
  have hks':∀ x ∈ arr.toList,IsKey d x.key:=fun x hx=>hks(x.key,x.val)(by rw[← he];exact List.mem_map.2⟨x,hx,rfl⟩)
  rcases findNow_spec hk arr.toList 0 hks' with⟨f1,f2⟩ | ⟨j,e,f1,f2,f3⟩
  · refine⟨mres ok z false,w,?_,Same.rfl' _,h2 fun x hx=>?_⟩
    · cases ok <;> simp[Instr.lookup,run_underlying t1,Go.MapKept.run_getObj_map hb,run_checkKey t2 hk,run_findKey t2 f1,t3,Result.andThen,mres]
    · rw[← he]at hx
      obtain⟨y,hy,rfl⟩:=List.mem_map.1 hx
      exact f2 y hy
  · refine⟨mres ok e.val true,w,?_,Same.rfl' _,h1 _ ?_⟩
    · cases ok <;> simp[Instr.lookup,run_underlying t1,Go.MapKept.run_getObj_map hb,run_checkKey t2 hk,run_findKey t2 f1,Result.andThen,mres]
    · have:=zPc he f2
      rw[f3]at this
      exact List.mem_of_getElem? this
theorem zOe{arr:Array MapEntry}{j:Nat}{key val:Value}:(arr.modify j fun e=>{ e with key:=key,val:=val }).toList.map(·.born)=arr.toList.map(·.born):=by
  apply List.ext_getElem?
  intro i
  rw[List.getElem?_map,List.getElem?_map,Array.toList_modify,List.getElem?_modify]
  by_cases h:j=i
  · subst h
    cases arr.toList[j]? <;> simp
  · simp[h]
theorem zRB{P:Program}{mty:TypeId}{d:TypeDesc}{z key val:Value}{H:Heap}{q:Nat}{es:List(Value×Value)}{k:Value→Heap→Prop}(hT:MapT P mty d z)(hm:MapAt H q es)(hks:∀ x ∈ es,IsKey d x.1)(hk:IsKey d key)
    (h1:∀ j v H',es[j]? = some(key,v)→MapAt H' q(es.set j(key,val))→Keep(· = q)H H'→k undef H')(h2:∀ H',(∀ x ∈ es,x.1≠key)→MapAt H' q(es++[(key,val)])→Keep(· = q)H H'→k undef H'):Msu P(Instr.mapUpdate mty(.map(some q))key val)H k:=fun w hw=>by
  subst hw
  obtain⟨kt,et,t1,t2,t3⟩:=hT
  obtain⟨arr,clock,hb,he,hbn,hnd⟩:=hm
  have hks':∀ x ∈ arr.toList,IsKey d x.key:=fun x hx=>hks(x.key,x.val)(by rw[← he];exact List.mem_map.2⟨x,hx,rfl⟩)
  have hsol:∀ o:Obj,(∀ ds,o ≠ .deferred ds)→Solid w.heap(w.heap.setIfInBounds q o):=fun o ho i ds hi=>by
    rw[Array.getElem?_setIfInBounds]
    split
    · rename_i e;subst e;rw[hb]at hi;cases hi
    · exact hi
  rcases findNow_spec hk arr.toList 0 hks' with⟨f1,f2⟩ | ⟨j,e,f1,f2,f3⟩
  · refine⟨{ w with heap:=w.heap.setIfInBounds q(.map(arr.push{ key,val,born:=clock })(clock+1)) },?_,⟨rfl,rfl,rfl,hsol _(fun _ e=>by cases e)⟩,h2 _(fun x hx=>?_)⟨_,_,(heap_set hb).1,?_,?_,?_⟩(Keep.set rfl)⟩
    · simp[Instr.mapUpdate,run_underlying t1,Go.MapKept.run_getObj_map hb,run_checkKey t2 hk,run_findKey t2 f1,Go.MapKept.run_setObj_map _ hb,Result.andThen]
    · rw[← he]at hx
      obtain⟨y,hy,rfl⟩:=List.mem_map.1 hx
      exact f2 y hy
    · rw[Array.toList_push,List.map_append,he];rfl
    · intro x hx
      rw[Array.toList_push]at hx
      rcases List.mem_append.1 hx with hx | hx
      · have:=hbn x hx;omega
      · rw[List.mem_singleton.1 hx];show clock<clock+1;omega
    · rw[Array.toList_push,List.map_append,List.nodup_append]
      refine⟨hnd,by simp,fun a ha b hb' e=>?_⟩
      obtain⟨x,hx,rfl⟩:=List.mem_map.1 ha
      have hb'':b=clock:=by simpa using hb'
      have:=hbn x hx;omega
  · have hj:arr[j]? = some e:=by simpa using f2
    have hes:=zPc he f2
    rw[f3]at hes
    refine⟨{ w with heap:=w.heap.setIfInBounds q(.map(arr.modify j fun e=>{ e with key:=key,val:=val })clock) },?_,⟨rfl,rfl,rfl,hsol _(fun _ e=>by cases e)⟩,h1 j e.val _ hes⟨_,_,(heap_set hb).1,?_,?_,?_⟩(Keep.set rfl)⟩
    · simp[Instr.mapUpdate,run_underlying t1,Go.MapKept.run_getObj_map hb,run_checkKey t2 hk,run_findKey t2 f1,hj,f3,run_keyThatStays hk,Go.MapKept.run_setObj_map _ hb,Result.andThen]
    · rw[← he]
      apply List.ext_getElem?
      intro i
      rw[Array.toList_modify,List.getElem?_map,List.getElem?_modify,List.getElem?_set]
      by_cases hij:j=i
      · subst hij
        obtain⟨hlt,_⟩:=List.getElem?_eq_some_iff.1 f2
        have hlt':j<arr.size:=by simpa using hlt
        simp[f2,hlt']
      · rw[if_neg hij]
        simp[hij]
    · intro x hx
      have:x.born ∈ arr.toList.map(·.born):=by rw[← zOe(j:=j)(key:=key)(val:=val)];exact List.mem_map.2⟨x,hx,rfl⟩
      obtain⟨y,hy,e⟩:=List.mem_map.1 this
      rw[← e];exact hbn y hy
    · rw[zOe];exact hnd
end Go.Proofs.YticdfkoncnnmmaaGreatDoor
namespace Go.Proofs.YticdfkoncnnmmaaGreatDoor
open Go.X Go.X.Diff
set_option maxRecDepth 100000
def ItAt(H:Heap)(r q:Nat)(es:List(Value×Value))(vis:List Nat):Prop:=∃ (arr:Array MapEntry)(clock:Nat)(seen:Array Nat),H[q]? = some(.map arr clock)∧arr.toList.map(fun e=>(e.key,e.val))=es∧(∀ e ∈ arr.toList,e.born<clock)∧(arr.toList.map(·.born)).Nodup ∧
  H[r]? = some(.mapIter(some q)clock seen clock)∧r≠q∧vis.Nodup∧(∀ i ∈ vis,i<arr.size)∧(∀ i(h:i<arr.size),arr[i].born ∈ seen↔i ∈ vis)∧seen.toList=vis.map fun i=>(arr[i]?.map(·.born)).getD 0
theorem ItAt.keep{H H':Heap}{r q:Nat}{es:List(Value×Value)}{vis:List Nat}{S:Nat→Prop}(h:ItAt H r q es vis)(k:Keep S H H')(hr:¬ S r)(hq:¬ S q):ItAt H' r q es vis:=by
  obtain⟨arr,clock,seen,h1,h2,h3,h4,h5,h6⟩:=h
  exact⟨arr,clock,seen,k.at h1 hq,h2,h3,h4,k.at h5 hr,h6⟩
theorem ItAt.map{H:Heap}{r q:Nat}{es:List(Value×Value)}{vis:List Nat}(h:ItAt H r q es vis):MapAt H q es:=by
  obtain⟨arr,clock,seen,h1,h2,h3,h4,_⟩:=h
  exact⟨arr,clock,h1,h2,h3,h4⟩
theorem zVY{P:Program}{T k' e:TypeId}{H:Heap}{q:Nat}{es:List(Value×Value)}{k:Value→Heap→Prop}(ht:P.underlying T=some(.map k' e))(hm:MapAt H q es)(hk:∀ H',ItAt H' H.size q es []→Keep(fun _=>False)H H'→k(Ptr H.size 0)H'):Msem P(Instr.range T(.map(some q)))H k:=fun w hw=>by
  subst hw
  obtain⟨arr,clock,hb,he,hbn,hnd⟩:=hm
  refine⟨_,_,run_range_map w T k' e q arr clock ht hb,⟨rfl,rfl,rfl,Solid.push⟩,hk _⟨arr,clock,#[],zMr hb,he,hbn,hnd,zAA,?_,List.nodup_nil,(fun i h=>by cases h),(fun i h=>by simp),rfl⟩Keep.push⟩
  have:=lt_of hb;omega
theorem zXc{P:Program}{T:TypeId}{H:Heap}{r q:Nat}{es:List(Value×Value)}{vis:List Nat}{k:Value→Heap→Prop}(hI:ItAt H r q es vis)
    (h1:∀ (i:Nat)(x:Value×Value),es[i]? = some x→i ∉ vis→∀ H',ItAt H' r q es(vis++[i])→Keep(· = r)H H'→k(.tuple #[.bool true,x.1,x.2])H')(h2:(∀ i,i<es.length→i ∈ vis)→k(.tuple #[.bool false])H) :
    Msem P(Instr.next(Ptr r 0)false T)H k:=fun w hw=>by
  subst hw
  obtain⟨arr,clock,seen,hb,he,hbn,hnd,hr,hrq,hv,hvl,hs,hsv⟩:=hI
  have hlen:es.length=arr.size:=by rw[← he];simp
  rcases run_next_at w T r q clock clock seen arr clock hr hb hbn(Nat.le_refl _)with⟨h0,hrun⟩ | ⟨e,hel,w1,hw1,hrun⟩
  · refine⟨_,w,hrun,Same.rfl' _,h2 fun i hi=>?_⟩
    have hi':i<arr.size:=by omega
    refine(hs i hi').1 ?_
    have:¬ arr[i] ∈ leftOf arr seen:=fun hm=>by
      have:=Array.size_pos_of_mem hm;omega
    unfold leftOf at this
    rw[Array.mem_filter]at this
    simpa using this
  · have hem:e ∈ leftOf arr seen:=by simpa using hel
    unfold leftOf at hem
    rw[Array.mem_filter]at hem
    obtain⟨hea,hns⟩:=hem
    obtain⟨i,hi,rfl⟩:=Array.getElem_of_mem hea
    have hnv:i ∉ vis:=fun h=>by
      have:=(hs i hi).2 h
      simp[this]at hns
    have hh:(w1.heap:Heap)=w.heap:=by rcases hw1 with rfl | rfl <;> rfl
    have hsame:Same w w1:=by
      rcases hw1 with rfl | rfl
      · exact Same.rfl' _
      · exact⟨rfl,rfl,rfl,Solid.rfl'⟩
    have hset:(ChangeMaps.setBlock w1 r(.mapIter(some q)clock(seen.push arr[i].born)clock)).heap=(w.heap:Heap).setIfInBounds r(.mapIter(some q)clock(seen.push arr[i].born)clock):=by
      show(w1.heap:Heap).setIfInBounds r _=_
      rw[hh]
    refine⟨_,_,hrun,⟨hsame.os,hsame.tape,hsame.output,?_⟩,?_⟩
    · rw[hset]
      intro j ds hj
      rw[Array.getElem?_setIfInBounds]
      split
      · rename_i e;subst e;rw[hr]at hj;cases hj
      · exact hj
    · rw[hset]
      refine h1 i(arr[i].key,arr[i].val)?_ hnv _⟨arr,clock,seen.push arr[i].born,?_,he,hbn,hnd,zAr hr,hrq,?_,?_,?_,by rw[Array.toList_push,hsv,List.map_append];simp[hi]⟩(Keep.set rfl)
      · rw[← he,List.getElem?_map]
        simp[hi]
      · exact zT2 hb hrq
      · rw[List.nodup_append]
        exact⟨hv,by simp,fun a ha b hb e=>by simp at hb;subst hb;subst e;exact hnv ha⟩
      · intro j hj
        rcases List.mem_append.1 hj with hj | hj
        · exact hvl j hj
        · rw[List.mem_singleton.1 hj];exact hi
      · intro j hj
        rw[Array.mem_push,hs j hj,List.mem_append,List.mem_singleton]
        refine or_congr Iff.rfl⟨fun e=>?_,fun e=>by subst e;rfl⟩
        have hp:=List.pairwise_iff_getElem.1(List.pairwise_map.1(List.nodup_iff_pairwise_ne.1 hnd))
        have hjl:j<arr.toList.length:=by simpa using hj
        have hil:i<arr.toList.length:=by simpa using hi
        rcases Nat.lt_trichotomy j i with h | h | h
        · exact absurd e(by simpa using hp j i hjl hil h)
        · exact h
        · exact absurd e.symm(by simpa using hp i j hil hjl h)
theorem zVZ{P:Program}{H:Heap}{r q i:Nat}{es:List(Value×Value)}{vis:List Nat}{x:Value×Value}{k:Value→Heap→Prop}(hI:ItAt H r q es(vis++[i]))(hx:es[i]? = some x)(hk:k(.tuple #[x.1,x.2])H):Msem P(Instr.entry(Ptr r 0))H k:=fun w hw=>by
  subst hw
  obtain⟨arr,clock,seen,hb,he,hbn,hnd,hr,hrq,hv,hvl,hs,hsv⟩:=hI
  have hi:i<arr.size:=hvl i(by simp)
  have hseen:seen=(vis.map fun i=>(arr[i]?.map(·.born)).getD 0).toArray.push arr[i].born:=by
    apply Array.ext'
    rw[hsv,List.map_append,Array.toList_push]
    simp[hi]
  rw[hseen]at hr
  have hxe:x=(arr[i].key,arr[i].val):=by
    rw[← he,List.getElem?_map]at hx
    simp[hi]at hx
    exact hx.symm
  subst hxe
  exact⟨_,w,run_entry_at w r q clock _ arr clock arr[i] hr hb(by simp)hnd,Same.rfl' w,hk⟩
end Go.Proofs.YticdfkoncnnmmaaGreatDoor
namespace Go.Proofs.YticdfkoncnnmmaaGreatDoor
open Go.X Go.X.Diff
set_option maxRecDepth 100000
set_option linter.unusedSimpArgs false
set_option linter.unusedVariables false
def underF(a b:List UInt8):Bool:=decide(a=b) || (decide((b++[47]).length≤a.length) && decide(a.take(b++[47]).length=b++[47]))
theorem zSM{H:Heap}{a b:List UInt8}(hb:b.length≤1048576):HCalls prg zFm [str a,str b] H fun u H'=>u = .bool(underF a b)∧Keep(fun _=>False)H H':=by
  apply zLg
  unfold zJ7
  have e:=fun q=>zAX(q:=q)(a:=a)(b:=b)
  have s:(Value.string⟨#[47]⟩)=str [47]:=rfl
  rw[e,zAa,s]
  unfold underF
  cases h:decide(a=b)
  · simp only[J1_eq,zAh,if_true,Bool.false_or]
    rw[zMd(by simp;omega),zAa]
    refine zAf(R:=fun u H'=>u = .bool(decide((b++[47]).length≤a.length) && decide(a.take(b++[47]).length=b++[47]))∧H=H')?_ ?_
    · apply zFI
      unfold zFx
      refine zAf zOb ?_
      rintro _ _⟨rfl,rfl⟩
      exact⟨rfl,rfl⟩
    · rintro _ _⟨rfl,rfl⟩
      simp only[zAd,Bool.false_eq_true,if_false,zAa]
      exact⟨by trivial,Keep.refl⟩
  · simp only[J1_eq,zAh,Bool.true_eq_false,if_false,zAd,if_true,zAa,Bool.true_or]
    exact⟨by trivial,Keep.refl⟩
def fnL:List UInt8:=[97,98,99,100,101,102,103,104,105,106,107,108,109,110,111,112,113,114,115,116,117,118,119,120,121,122,48,49,50,51,52,53,54,55,56,57,46,95,45]
def fpartOk(w:List UInt8):Bool:=!decide(w=[]) && !decide(w=[46]) && !decide(w=[46,46]) && decide(trimL fnL(trimR fnL w)=[])
def fnOk(l:List UInt8):Bool:=!decide(l=[]) && decide(l.length≤64) && (splitF 47 l).all fpartOk
structure FnI(H:Heap)(l:List UInt8)(j:Nat)(h:Heap):Prop where
  a:At h H.size [.bool false]
  ok:((splitF 47 l).take j).all fpartOk=true
  k:Keep(fun _=>False)H h
theorem FnI.keep{H:Heap}{l:List UInt8}{j:Nat}{h h':Heap}{S:Nat→Prop}(p:FnI H l j h)(k:Keep S h h')(hs:∀ b,S b→H.size<b):FnI H l j h' :=
  ⟨p.a.keep k fun hS=>by have:=hs _ hS;omega,p.ok,p.k.fresh k fun b hb=>by have:=hs b hb;omega⟩
theorem zXd:zcells prg zNe=some [Value.bool false].toArray:=by kernel_rfl
set_option maxHeartbeats 2000000 in
theorem zSl{H:Heap}{l:List UInt8}:HCalls prg zKJ [str l] H fun u H'=>u = .bool(fnOk l)∧Keep(fun _=>False)H H':=by
  apply zM3
  unfold zMV
  simp only[zXd,zAp]
  generalize hH1:H.push(.cells [Value.bool false].toArray zNe(0,0))=H1
  have k1:Keep(fun _=>False)H H1:=by rw[← hH1];exact Keep.push
  have a1:At H1 H.size [.bool false]:=by rw[← hH1];exact At.push
  have s1:H1.size=H.size+1:=by rw[← hH1];simp
  have s0:(Value.string⟨#[]⟩)=str []:=rfl
  have s47:(Value.string⟨#[47]⟩)=str [47]:=rfl
  have s46:(Value.string⟨#[46]⟩)=str [46]:=rfl
  have s446:(Value.string⟨#[46,46]⟩)=str [46,46]:=rfl
  have sfn:(Value.string⟨#[97,98,99,100,101,102,103,104,105,106,107,108,109,110,111,112,113,114,115,116,117,118,119,120,121,122,48,49,50,51,52,53,54,55,56,57,46,95,45]⟩)=str fnL:=rfl
  have e0:=fun q=>zAX(q:=q)(a:=l)(b:=[])
  have e64:binV .no .gtr(.int .i64(l.length:Nat))(.int .i64 64)=some(.bool(decide(l.length > 64))):=zXZ
  rw[s0,s47,s46,s446,sfn,e0,zAa]
  have no:∀ h,At h H.size [.bool false]→Keep(fun _=>False)H h→fnOk l=false→Mwr(st1 h(Ptr H.size 0)(.bool false))fun h4=>Mcl H.size h4 fun h5=>Mpu(ld1 h5(Ptr H.size 0))fun r6=>r6 = .bool(fnOk l)∧Keep(fun _=>False)H h5:=fun h a kh hf=>by
    obtain⟨h4,st4,a4,k4⟩:=a.st1(i:=0)(v := .bool false)(by simp)rfl
    rw[st4,zAi]
    refine mcl_i fun h5 hc=>?_
    have d:ld1 h5(Ptr H.size 0)=some(.bool false):=(a4.closed hc).ld rfl
    rw[d,zAa]
    exact⟨by rw[hf],zDL(kh.fresh k4 fun b hb=>by omega)hc⟩
  cases hnil:decide(l=[])
  rotate_left
  · simp only[J1_eq,zAh,Bool.true_eq_false,if_false,zAd,if_true,zAa,zAb]
    exact no H1 a1 k1(by unfold fnOk;rw[hnil];rfl)
  refine J1_eq.2 ?_
  rw[zAh,if_pos rfl,zBI,zAa,e64,zAa]
  cases h64:decide(l.length > 64)
  rotate_left
  · simp only[zAd,if_true,Bool.false_eq_true,if_false,zAa,zAb]
    exact no H1 a1 k1(by unfold fnOk;rw[hnil,decide_eq_false(show ¬ l.length≤64 by have:=of_decide_eq_true h64;omega)];rfl)
  have hl:l.length≤64:=by have:=of_decide_eq_false h64;omega
  have hfo:fnOk l=(splitF 47 l).all fpartOk:=by unfold fnOk;rw[hnil,decide_eq_true hl];rfl
  rw[zAd,if_neg(by decide),zAa,zAb,if_neg(by decide)]
  refine zAf zO8 ?_
  rintro _ h5⟨qs,qp,qn,rfl,hst,hq,k5⟩
  have g5:=k5.1
  have k05:=k1.trans k5
  have inv0:FnI H l 0 h5:=⟨a1.keep k5 id,rfl,k05⟩
  have hxl:((splitF 47 l).map fun x=>[str x]).length=(splitF 47 l).length:=by simp
  refine range_i(xs:=(splitF 47 l).map fun x=>[str x])(S:=fun b=>b=qs∨b=qp∨b=qn)(W:=fun b=>b=H.size∨h5.size+2≤b)(St:=SplitSt qs qp qn l 47)
    (zO7(by omega))(fun o o'=>?_)k05.1
    (FnI H l)(fun c h=>c = .ret∧(splitF 47 l).all fpartOk=false∧At h H.size [.bool false]∧Keep(fun _=>False)H h)inv0
    (fun i h h' hI k=>hI.keep k fun b hb=>?_)(fun c h h' hX k=>?_)(fun b hb=>(hq b hb).2)(fun b hb=>?_)?_ ?_ ?_
  · have kp:Keep(fun _=>False)h5((h5.push o).push o'):=Keep.push.trans Keep.push
    exact⟨hst.s.keep kp id,hst.p.keep kp id,hst.n.keep kp id,hst.ne⟩
  · rcases hb with hb | rfl | rfl
    · have:=hq b hb;omega
    · omega
    · omega
  · obtain⟨rfl,x0,x1,x4⟩:=hX
    have nb:∀ b,(b=qs∨b=qp∨b=qn)∨b=h5.size∨b=h5.size+1→H.size<b:=fun b hb=>by
      rcases hb with hb | rfl | rfl
      · have:=hq b hb;omega
      · omega
      · omega
    exact⟨rfl,x0,x1.keep k fun hb=>by have:=nb _ hb;omega,x4.fresh k fun b hb=>by have:=nb b hb;omega⟩
  · refine⟨by omega,by omega,fun hbq=>?_⟩
    have:=hq b hbq;omega
  · intro j x h r hx hI hloop hready K hN hEx
    obtain⟨y,hy,rfl⟩:∃ y,(splitF 47 l)[j]? = some y∧x=[str y]:=by
      rw[List.getElem?_map]at hx
      obtain⟨y,h1,h2⟩:=Option.map_eq_some_iff.1 hx
      exact⟨y,h1,h2.symm⟩
    refine⟨rfl,r,hloop,hready,?_⟩
    have hsz:=lt_of hloop
    generalize hhb:h.setIfInBounds(h5.size+1)(.loop{ r with state := .busy })=hb at *
    have kb:Keep(· = h5.size+1)h hb:=by rw[← hhb];exact Keep.set rfl
    have gb:=kb.1
    have hI:=hI.keep kb fun b hb=>by omega
    have hmem:y ∈ splitF 47 l:=List.mem_of_getElem? hy
    have hyl:=zIL hmem
    have htk:(splitF 47 l).take(j+1)=(splitF 47 l).take j++[y]:=by rw[List.take_add_one,hy];rfl
    have bad:∀ h',Keep(fun _=>False)hb h'→fpartOk y=false→Mwr(st1 h'(Ptr H.size 0)(.bool false))fun h21=>K(some Code.ret)h21:=fun h' k' hf=>by
      obtain⟨h12,st12,a12,k12⟩:=(hI.a.keep k' id).st1(i:=0)(v := .bool false)(by simp)rfl
      rw[st12,zAi]
      have kW:Keep(fun b=>b=H.size∨h5.size+2≤b)hb h12:=(k'.mono fun _ _ h=>h.elim).trans(k12.mono fun b _ h => .inl h)
      exact hEx _ h12 kW⟨rfl,List.all_eq_false.2⟨y,hmem,by simp[hf]⟩,a12,hI.k.fresh kW fun b hb'=>by omega⟩
    have good:∀ h',Keep(fun _=>False)hb h'→fpartOk y=true→K none h':=fun h' k' hf=>by
      refine hN h'(k'.mono fun _ _ h=>h.elim)⟨hI.a.keep k' id,?_,hI.k.trans k'⟩
      rw[htk,List.all_append,hI.ok];simp[hf]
    have q0:=fun q=>zAX(q:=q)(a:=y)(b:=[])
    have q1:=fun q=>zAX(q:=q)(a:=y)(b:=[46])
    have q2:=fun q=>zAX(q:=q)(a:=y)(b:=[46,46])
    show Mpu(binV .no .eql(str y)(str []))_
    rw[q0,zAa]
    cases p0:decide(y=[])
    rotate_left
    · simp only[J1_eq,zAh,Bool.true_eq_false,if_false,zAd,if_true,zAa,zAb]
      exact bad hb Keep.refl(by unfold fpartOk;rw[p0];rfl)
    refine J1_eq.2 ?_
    rw[zAh,if_pos rfl]
    show Mpu(binV .no .eql(str y)(str [46]))_
    rw[q1,zAa]
    cases p1:decide(y=[46])
    rotate_left
    · simp only[J1_eq,zAh,Bool.true_eq_false,Bool.false_eq_true,if_false,zAd,if_true,zAa,zAb]
      exact bad hb Keep.refl(by unfold fpartOk;rw[p0,p1];rfl)
    rw[zAd,if_neg(by decide),zAa]
    refine J1_eq.2 ?_
    rw[zAh,if_pos rfl]
    show Mpu(binV .no .eql(str y)(str [46,46]))_
    rw[q2,zAa]
    cases p2:decide(y=[46,46])
    rotate_left
    · simp only[J1_eq,zAh,Bool.true_eq_false,Bool.false_eq_true,if_false,zAd,if_true,zAa,zAb]
      exact bad hb Keep.refl(by unfold fpartOk;rw[p0,p1,p2];rfl)
    rw[zAd,if_neg(by decide),zAa]
    refine J1_eq.2 ?_
    rw[zAh,if_pos rfl]
    show Mcall prg zDM [str y,str fnL] hb _
    refine zAf(zQ4(cs:=fnL)(by decide)(by decide)(by decide)(by omega))?_
    rintro _ h19⟨rfl,k19⟩
    have q3:binV .no .neq(str(trimL fnL(trimR fnL y)))(str [])=some(.bool(!decide(trimL fnL(trimR fnL y)=[]))):=zNI
    rw[q3,zAa]
    show Mpu(pickV(.bool false)(.bool true)(.bool(!decide(trimL fnL(trimR fnL y)=[]))))_
    rw[zAd,if_neg(by decide),zAa,zAb]
    have hpo:fpartOk y=decide(trimL fnL(trimR fnL y)=[]):=by unfold fpartOk;rw[p0,p1,p2];rfl
    cases p3:decide(trimL fnL(trimR fnL y)=[])
    · rw[if_pos(show(!false)=true from rfl)]
      exact bad h19 k19(by rw[hpo,p3])
    · rw[if_neg(show ¬ (!true)=true by decide)]
      exact good h19 k19(by rw[hpo,p3])
  · intro h hsz hI
    refine .inl⟨rfl,?_⟩
    rw[hxl]at hI
    obtain⟨h22,st22,a22,k22⟩:=hI.a.st1(i:=0)(v := .bool true)(by simp)rfl
    have hok:=hI.ok
    rw[List.take_of_length_le(Nat.le_refl _)]at hok
    show Mwr(st1 h(Ptr H.size 0)(.bool true))_
    rw[st22,zAi]
    refine mcl_i fun h23 hc=>?_
    have d:ld1 h23(Ptr H.size 0)=some(.bool true):=(a22.closed hc).ld rfl
    show Mpu(ld1 h23(Ptr H.size 0))_
    rw[d,zAa]
    exact⟨by rw[hfo,hok],zDL(hI.k.fresh k22 fun b hb=>by omega)hc⟩
  · rintro c h hsz⟨rfl,x0,x1,x4⟩
    refine .inr⟨rfl,?_⟩
    refine mcl_i fun h25 hc=>?_
    have d:ld1 h25(Ptr H.size 0)=some(.bool false):=(x1.closed hc).ld rfl
    show Mpu(ld1 h25(Ptr H.size 0))_
    rw[d,zAa]
    exact⟨by rw[hfo,x0],zDL x4 hc⟩
end Go.Proofs.YticdfkoncnnmmaaGreatDoor
namespace Go.Proofs.YticdfkoncnnmmaaGreatDoor
open Go.X Go.X.Diff
set_option maxRecDepth 100000
set_option linter.unusedSimpArgs false
set_option linter.unusedVariables false
theorem ltNn{n m:Nat}:binV .no .lss(.int .i64(n:Nat))(.int .i64(m:Nat))=some(.bool(decide(n<m))):=by
  rw[zAg];simp only[intV];congr 2;rw[decide_eq_decide];omega
theorem gtNn{n m:Nat}:binV .no .gtr(.int .i64(n:Nat))(.int .i64(m:Nat))=some(.bool(decide(n > m))):=by
  rw[zAg];simp only[intV];congr 2;rw[decide_eq_decide];omega
theorem eqNn{n m:Nat}:binV .no .eql(.int .i64(n:Nat))(.int .i64(m:Nat))=some(.bool(decide(n=m))):=by
  rw[zAg];simp only[intV];congr 2;rw[Bool.eq_iff_iff];simp <;> omega
theorem neNn{n m:Nat}:binV .no .neq(.int .i64(n:Nat))(.int .i64(m:Nat))=some(.bool(!decide(n=m))):=by
  rw[zAg];simp only[intV];congr 2;rw[Bool.eq_iff_iff];simp <;> omega
theorem ltI{x y:Int}:binV .no .lss(.int .i64 x)(.int .i64 y)=some(.bool(decide(x<y))):=by rw[zAg];rfl
theorem gtI{x y:Int}:binV .no .gtr(.int .i64 x)(.int .i64 y)=some(.bool(decide(x > y))):=by rw[zAg];rfl
theorem geI{x y:Int}:binV .no .geq(.int .i64 x)(.int .i64 y)=some(.bool(decide(x≥y))):=by rw[zAg];rfl
theorem eqI{x y:Int}:binV .no .eql(.int .i64 x)(.int .i64 y)=some(.bool(decide(x=y))):=by
  rw[zAg];simp only[intV];congr 2
theorem neI{x y:Int}:binV .no .neq(.int .i64 x)(.int .i64 y)=some(.bool(!decide(x=y))):=by
  rw[zAg];simp only[intV];congr 2
theorem zLy{p:Nat→Bool}{n i:Nat}(hi:i<n)(h:p i=false):(List.range n).all p=false:=List.all_eq_false.2⟨i,List.mem_range.2 hi,by simp[h]⟩
theorem zKu{p:Nat→Bool}{i:Nat}(h:(List.range i).all p=true)(hb:p i=true):(List.range(i+1)).all p=true:=by
  rw[List.range_succ,List.all_append,h];simp[hb]
theorem zTu{H:Heap}{d:MFile}(hd:d.wf):HCalls prg zBN [.agg(fileC d).toArray] H fun u H'=>u=str d.name∧Keep(fun _=>False)H H':=by
  apply zJM
  unfold zH0
  simp only[zAC,zAp]
  have a:At(H.push(.cells(fileC d).toArray zAt(0,0)))H.size(fileC d):=At.push
  have d0:ld1(H.push(.cells(fileC d).toArray zAt(0,0)))(Ptr H.size 0)=some(str d.name):=a.ld rfl
  rw[zAq,zAa,Nat.add_zero,d0,zAa]
  exact⟨rfl,Keep.push⟩
theorem zTv{P:Nat→Prop}{H:Heap}{v:Value}{l:List MFile}(hv:SlE 34 P H v(l.map fileC))(hw:∀ d ∈ l,d.wf)(hl:l.length≤1099511627776) :
    HCalls prg zCt [v,.func(.func zBN) #[] #[]] H fun u H'=>u = .bool(riseF(l.map(·.name)))∧Keep(fun _=>False)H H':=by
  apply zFR
  unfold zD1
  have hlen:=hv.len
  rw[List.length_map]at hlen
  have hln:(l.map(·.name)).length=l.length:=by simp
  have hcall:∀ (d:MFile)(h:Heap)(k:Value→Heap→Prop),d.wf→(∀ h',Keep(fun _=>False)h h'→k(str d.name)h')→Mcallv prg(.func(.func zBN) #[] #[]) [.agg(fileC d).toArray] h k:=fun d h k hd hk =>
    .inl⟨zBN,#[],#[],rfl,by kernel_rfl,HCalls.mono(R:=fun u H'=>u=str d.name∧Keep(fun _=>False)h H')(zTu hd)fun u h' hR=>by obtain⟨rfl,k'⟩:=hR;exact hk h' k'⟩
  refine J1_i(fun _ h=>riseF(l.map(·.name))=true∧Keep(fun _=>False)H h)(fun k hk=>?_)?_
  · refine L1_i(fun u h=>∃ i:Nat,1≤i∧u = .int .i64(i:Nat)∧(List.range(min i l.length)).all(riseAt(l.map(·.name)))=true∧Keep(fun _=>False)H h)(fun u _=>match u with | .int _ t=>l.length - t.toNat | _=>0)⟨1,Nat.le_refl _,rfl,?_,Keep.refl⟩?_
    · by_cases h0:l.length=0
      · rw[h0];rfl
      · rw[Nat.min_eq_left(by omega)];rfl
    rintro _ h⟨i,hi,rfl,hall,kh⟩k2 hk2
    rw[hlen,zAa,ltNn,zAa,zAb]
    by_cases hlt:i<l.length
    · rw[if_pos(by simpa using hlt)]
      have hg:l[i]? = some l[i]:=List.getElem?_eq_getElem hlt
      have hg':l[i - 1]? = some(l[i - 1]'(by omega)):=List.getElem?_eq_getElem(by omega)
      have hvh:=hv.keep kh fun _ _=>id
      obtain⟨b,o,hix,hpt,_⟩:=hvh.at(i:=i)(x:=fileC l[i])(by rw[List.getElem?_map,hg];rfl)
      obtain⟨b',o',hix',hpt',_⟩:=hvh.at(i:=i - 1)(x:=fileC(l[i - 1]'(by omega)))(by rw[List.getElem?_map,hg'];rfl)
      have hwd:=hw _(List.getElem_mem hlt)
      have hwd':=hw _(List.getElem_mem(show i - 1<l.length by omega))
      have hra:riseAt(l.map(·.name))i=lessB(l[i - 1]'(by omega)).name l[i].name:=by
        have h0:((l.map(·.name)).getD(i - 1) [])=(l[i - 1]'(by omega)).name:=by simp[List.getD,hg']
        have h1:((l.map(·.name)).getD i [])=l[i].name:=by simp[List.getD,hg]
        unfold riseAt
        rw[h0,h1,decide_eq_false(by omega)];rfl
      generalize l[i]=d at *
      generalize(l[i - 1]'(by omega))=d' at *
      have e2:binV .no .sub(.int .i64(i:Nat))(.int .i64 1)=some(.int .i64((i - 1:Nat):Int)):=by
        rw[zAg];simp only[intV];rw[zAx(by omega)(by omega)];congr 2;omega
      rw[e2,zAa,hix' .i64,zAa,hpt'.agg(zA3 hwd'),zAa,hix .i64,zAa,hpt.agg(zA3 hwd),zAa]
      refine hcall d' h _ hwd' fun h5 k5=>?_
      refine⟨(hpt.keep k5 id).agg(zA3 hwd),?_⟩
      refine hcall d h5 _ hwd fun h6 k6=>?_
      have hge:binV .no .geq(str d'.name)(str d.name)=some(.bool(!lessB d'.name d.name)):=by rw[zCg];exact zQ5
      rw[hge,zAa,zAb]
      have kk:=kh.trans(k5.trans k6)
      cases hb:lessB d'.name d.name
      · rw[if_pos(show(!false)=true from rfl)]
        exact⟨by rw[zRq(i:=i)(by rw[hln];exact hlt)(by rw[hra,hb])],kk⟩
      · rw[if_neg(by decide),zAv(by omega),zAa]
        refine hk2 _ _⟨i+1,by omega,rfl,?_,kk⟩(by show l.length - (i+1)<l.length - i;omega)
        rw[Nat.min_eq_left(by omega)]at hall ⊢
        exact zQd hall(by rw[hra,hb])
    · rw[if_neg(by simpa using hlt)]
      refine hk _ _⟨?_,kh⟩
      rw[Nat.min_eq_right(by omega)]at hall
      unfold riseF
      rw[hln];exact hall
  · rintro _ h⟨h1,h2⟩
    exact⟨by rw[h1],h2⟩
def zFile:MFile:=⟨[],[],0⟩
def apartAt(l:List MFile)(i j:Nat):Bool:=decide(i=j) || !underF(l.getD j zFile).name(l.getD i zFile).name
def fileOkAt(l:List MFile)(i:Nat):Bool:=fnOk(l.getD i zFile).name && !underF(l.getD i zFile).name [118,97,114] && !decide((l.getD i zFile).size<0) && !decide((l.getD i zFile).size > 1048576) && (List.range l.length).all(apartAt l i)
def filesOk(l:List MFile):Bool:=decide(l.length≤64) && riseF(l.map(·.name)) && (List.range l.length).all(fileOkAt l)
theorem zMe{α:Type}{l:List α}{i:Nat}{x z:α}(h:l[i]? = some x):l.getD i z=x:=by simp[List.getD,h]
theorem zUr{l:List UInt8}(h:fnOk l=true):l.length≤64:=by
  unfold fnOk at h
  simp only[Bool.and_eq_true,decide_eq_true_eq]at h
  exact h.1.2
theorem zPC:zcells prg zAt=some(fileC⟨[],List.replicate 32 0,0⟩).toArray:=by kernel_rfl
theorem zF_wf:(⟨[],List.replicate 32 0,0⟩:MFile).wf:=⟨by simp,by simp,by simp⟩
set_option maxHeartbeats 4000000 in
theorem zV0{P:Nat→Prop}{H:Heap}{m:Man}{vd vc vf:Value}(hv:ManV P H m vd vc vf) :
    HCalls prg zDA [.agg(manC m vd vc vf).toArray] H fun u H'=>u = .bool(filesOk m.files)∧Keep(fun _=>False)H H':=by
  apply zHL
  unfold zFH
  simp only[zAC,zAp,zAq,Nat.zero_add,Nat.add_zero,zAa]
  generalize hH1:H.push(.cells(manC m vd vc vf).toArray zAc(0,0))=H1
  have k1:Keep(fun _=>False)H H1:=by rw[← hH1];exact Keep.push
  have a1:At H1 H.size(manC m vd vc vf):=by rw[← hH1];exact At.push
  have w:=hv.wf
  have d7:∀ h,Keep(fun _=>False)H1 h→ld1 h(Ptr H.size 7)=some vf:=fun h k=>(zCr(a1.keep k id)w).2.2
  have hf:=hv.f
  generalize hL:m.files=l at *
  have hlen:=hf.len
  rw[List.length_map]at hlen
  have hwl:∀ f ∈ l,f.wf:=fun f hf=>w.files f(by rw[hL];exact hf)
  have e64:binV .no .gtr(.int .i64(l.length:Nat))(.int .i64 64)=some(.bool(decide(l.length > 64))):=gtNn(m:=64)
  rw[d7 _ Keep.refl,zAa,hlen,zAa,e64,zAa]
  cases h64:decide(l.length > 64)
  rotate_left
  · simp only[J1_eq,zAh,Bool.true_eq_false,if_false,zAd,if_true,zAa,zAb]
    exact⟨by unfold filesOk;rw[decide_eq_false(show ¬ l.length≤64 by have:=of_decide_eq_true h64;omega)];rfl,k1⟩
  have hl:l.length≤64:=by have:=of_decide_eq_false h64;omega
  refine J1_eq.2 ?_
  rw[zAh,if_pos rfl,zAa]
  refine zAf(zTv(hf.keep k1 fun _ _=>id)hwl(by omega))?_
  rintro _ h3⟨rfl,k3⟩
  have k13:=k1.trans k3
  have hfo:filesOk l=(riseF(l.map(·.name)) && (List.range l.length).all(fileOkAt l)):=by unfold filesOk;rw[decide_eq_true hl];rfl
  rw[zAl,zAa]
  cases hr:riseF(l.map(·.name))
  · simp only[Bool.not_false,zAd,Bool.false_eq_true,if_false,if_true,zAa,zAb]
    exact⟨by rw[hfo,hr];rfl,k13⟩
  rw[hr,Bool.true_and]at hfo
  rw[Bool.not_true,zAd,if_neg(by decide),zAa,zAb,if_neg(by decide)]
  refine J1_i(fun _ h=>(List.range l.length).all(fileOkAt l)=true∧Keep(fun _=>False)H h)(fun k hk=>?_)?_
  rotate_left
  · rintro _ h⟨h1,h2⟩
    exact⟨by rw[hfo,h1],h2⟩
  rw[d7 _ k3,zAa,hlen,zAa]
  refine L1_i(fun u h=>∃ i:Nat,i≤l.length∧u = .int .i64(i:Nat)∧(List.range i).all(fileOkAt l)=true∧Keep(fun _=>False)h3 h)(fun u _=>match u with | .int _ t=>l.length - t.toNat | _=>0)⟨0,Nat.zero_le _,rfl,rfl,Keep.refl⟩?_
  rintro _ h⟨i,hi,rfl,hall,kh⟩kk hkk
  rw[ltNn,zAa,zAb]
  have k0h:=k13.trans kh
  by_cases hlt:i<l.length
  rotate_left
  · rw[if_neg(by simpa using hlt)]
    obtain rfl:i=l.length:=by omega
    exact hk _ _⟨hall,k0h⟩
  rw[if_pos(by simpa using hlt)]
  have hg:l[i]? = some l[i]:=List.getElem?_eq_getElem hlt
  have hgd:=zMe(z:=zFile)hg
  have hfoi:fileOkAt l i=(fnOk l[i].name && !underF l[i].name [118,97,114] && !decide(l[i].size<0) && !decide(l[i].size > 1048576) && (List.range l.length).all(apartAt l i)):=by unfold fileOkAt;rw[hgd]
  have hap:∀ j,apartAt l i j=(decide(i=j) || !underF(l.getD j zFile).name l[i].name):=fun j=>by unfold apartAt;rw[hgd]
  have hwf:=hwl _(List.getElem_mem hlt)
  generalize l[i]=f at *
  refine J4_i(fun _ _ _ _ h'=>fileOkAt l i=true∧Keep(fun _=>False)h3 h')(fun k9 hk9=>?_)?_
  rotate_left
  · rintro _ _ _ _ h'⟨h1,h2⟩
    rw[zAv(by omega),zAa]
    exact hkk _ _⟨i+1,by omega,rfl,zKu hall h1,h2⟩(by show l.length - (i+1)<l.length - i;omega)
  obtain⟨b,o,hix,hpt,_⟩:=(hf.keep k0h fun _ _=>id).at(i:=i)(x:=fileC f)(by rw[List.getElem?_map,hg];rfl)
  rw[hix .i64,zAa,hpt.agg(zA3 hwf),zAa]
  simp only[zPC,zAp]
  generalize hH11:h.push(.cells(fileC⟨[],List.replicate 32 0,0⟩).toArray zAt(0,0))=h11
  have k11:Keep(fun _=>False)h h11:=by rw[← hH11];exact Keep.push
  have a11:At h11 h.size(fileC⟨[],List.replicate 32 0,0⟩):=by rw[← hH11];exact At.push
  obtain⟨h12,st12,a12,k12⟩:=a11.st(n:=34)(ds:=fileC f)(zA3 zF_wf)(zA3 hwf)zGz
  have gh:=kh.1
  have k312:Keep(fun _=>False)h3 h12:=(kh.trans k11).fresh k12 fun b hb=>by omega
  have dn:∀ h',Keep(fun _=>False)h12 h'→ld1 h'(Ptr h.size 0)=some(str f.name):=fun h' k'=>(a12.keep k' id).ld rfl
  have dsz:∀ h',Keep(fun _=>False)h12 h'→ld1 h'(Ptr h.size 33)=some(.int .i64 f.size):=fun h' k'=>(a12.keep k' id).ld(by
    show(fileC f)[33]? = _
    unfold fileC
    rw[List.getElem?_cons_succ,List.getElem?_append_right(by simp[hwf.sum])]
    simp[hwf.sum])
  have svar:(Value.string⟨#[118,97,114]⟩)=str [118,97,114]:=rfl
  have bad:∀ h',Keep(fun _=>False)h12 h'→fileOkAt l i=false→(Value.bool false = .bool(filesOk l)∧Keep(fun _=>False)H h'):=fun h' k' hb=>⟨by rw[hfo,zLy hlt hb],(k13.trans k312).trans k'⟩
  rw[st12,zAi]
  simp only[zAq,Nat.zero_add,Nat.add_zero,zAa]
  rw[dn _ Keep.refl,zAa]
  refine zAf zSl ?_
  rintro _ h13⟨rfl,k13'⟩
  rw[zAl,zAa]
  cases q1:fnOk f.name
  · simp only[Bool.not_false,J1_eq,zAh,zAj,Bool.true_eq_false,if_false,zAd,if_true,zAa,zAb]
    exact bad _ k13'(by rw[hfoi,q1];rfl)
  rw[Bool.not_true]
  refine J1_eq.2 ?_
  rw[zAh,if_pos rfl,dn _ k13',zAa,svar]
  refine zAf(zSM(by simp))?_
  rintro _ h15⟨rfl,k15⟩
  have k1215:=k13'.trans k15
  rw[zAd,if_neg(by decide),zAa]
  cases q2:underF f.name [118,97,114]
  rotate_left
  · simp only[J1_eq,zAh,zAj,Bool.true_eq_false,if_false,zAd,if_true,zAa,zAb]
    exact bad _ k1215(by rw[hfoi,q1,q2];rfl)
  refine J1_eq.2 ?_
  rw[zAh,if_pos rfl,dsz _ k1215,zAa,ltI,zAa]
  show Mpu(pickV(.bool false)(.bool true)_)_
  rw[zAd,if_neg(by decide),zAa]
  cases q3:decide(f.size<0)
  rotate_left
  · simp only[J1_eq,zAh,zAj,Bool.true_eq_false,if_false,zAd,if_true,zAa,zAb]
    exact bad _ k1215(by rw[hfoi,q1,q2,q3];rfl)
  refine J1_eq.2 ?_
  rw[zAh,if_pos rfl,dsz _ k1215,zAa,gtI,zAa]
  show Mpu(pickV(.bool false)(.bool true)_)_
  rw[zAd,if_neg(by decide),zAa]
  cases q4:decide(f.size > 1048576)
  rotate_left
  · simp only[J1_eq,zAh,zAj,Bool.true_eq_false,if_false,zAd,if_true,zAa,zAb]
    exact bad _ k1215(by rw[hfoi,q1,q2,q3,q4];rfl)
  rw[zAb,if_neg(by decide),d7 _(k3.trans(k312.trans k1215)),zAa,hlen,zAa]
  have hfoi2:fileOkAt l i=(List.range l.length).all(apartAt l i):=by rw[hfoi,q1,q2,q3,q4];rfl
  refine L1_i(fun u h'=>∃ j:Nat,j≤l.length∧u = .int .i64(j:Nat)∧(List.range j).all(apartAt l i)=true∧Keep(fun _=>False)h15 h')(fun u _=>match u with | .int _ t=>l.length - t.toNat | _=>0)⟨0,Nat.zero_le _,rfl,rfl,Keep.refl⟩?_
  rintro _ g⟨j,hj,rfl,hallj,kg⟩k21 hk21
  rw[ltNn,zAa,zAb]
  have k12g:=k1215.trans kg
  by_cases hltj:j<l.length
  rotate_left
  · rw[if_neg(by simpa using hltj)]
    obtain rfl:j=l.length:=by omega
    exact hk9 _ _ _ _ _⟨by rw[hfoi2,hallj],k312.trans k12g⟩
  rw[if_pos(by simpa using hltj)]
  have hgj:l[j]? = some l[j]:=List.getElem?_eq_getElem hltj
  have hwj:=hwl _(List.getElem_mem hltj)
  have hapj:=hap j
  rw[zMe hgj]at hapj
  generalize l[j]=f2 at *
  obtain⟨b2,o2,hix2,hpt2,_⟩:=(hf.keep((k13.trans k312).trans k12g)fun _ _=>id).at(i:=j)(x:=fileC f2)(by rw[List.getElem?_map,hgj];rfl)
  rw[hix2 .i64,zAa,hpt2.agg(zA3 hwj),zAa]
  generalize hH23:g.push(.cells(fileC⟨[],List.replicate 32 0,0⟩).toArray zAt(0,0))=h23
  have k23:Keep(fun _=>False)g h23:=by rw[← hH23];exact Keep.push
  have a23:At h23 g.size(fileC⟨[],List.replicate 32 0,0⟩):=by rw[← hH23];exact At.push
  obtain⟨h24,st24,a24,k24⟩:=a23.st(n:=34)(ds:=fileC f2)(zA3 zF_wf)(zA3 hwj)zGz
  have gg:=kg.1
  have k1524:Keep(fun _=>False)h15 h24:=(kg.trans k23).fresh k24 fun b hb=>by omega
  have dn2:ld1 h24(Ptr g.size 0)=some(str f2.name):=a24.ld rfl
  rw[st24,zAi,neNn,zAa]
  cases q5:decide(i=j)
  · refine J1_eq.2 ?_
    rw[Bool.not_false,zAh,if_pos rfl,dn2,zAa,dn _(k1215.trans k1524),zAa]
    have:=zUr q1
    refine zAf(zSM(by omega))?_
    rintro _ h26⟨rfl,k26⟩
    rw[zAd,if_pos rfl,zAa,zAb]
    cases q6:underF f2.name f.name
    · rw[if_neg(by decide),zAv(by omega),zAa]
      exact hk21 _ _⟨j+1,by omega,rfl,zKu hallj(by rw[hapj,q5,q6];rfl),k1524.trans k26⟩(by show l.length - (j+1)<l.length - j;omega)
    · rw[if_pos rfl]
      exact bad _(k1215.trans(k1524.trans k26))(by rw[hfoi2];exact zLy hltj(by rw[hapj,q5,q6];rfl))
  · refine J1_eq.2 ?_
    rw[Bool.not_true,zAh,if_neg(by decide)]
    show Mpu(pickV(.bool false)undef(.bool false))_
    rw[zAd,if_neg(by decide),zAa,zAb,if_neg(by decide),zAv(by omega),zAa]
    exact hk21 _ _⟨j+1,by omega,rfl,zKu hallj(by rw[hapj,q5];rfl),k1524⟩(by show l.length - (j+1)<l.length - j;omega)
def manOkG(m:Man):Bool:=manOk m && filesOk m.files
theorem zMG{P:Nat→Prop}{H:Heap}{m:Man}{vd vc vf:Value}(hv:ManV P H m vd vc vf)(hd:m.deps.length≤1099511627776)(hc:m.conf.length≤1099511627776)(hO:OpsT H) :
    HCalls prg zBi [.agg(manC m vd vc vf).toArray] H fun u H'=>u = .bool(manOkG m)∧Keep(fun _=>False)H H':=by
  apply zHK
  unfold zFG
  simp only[zAC,zAp]
  generalize hH1:H.push(.cells(manC m vd vc vf).toArray zAc(0,0))=H1
  have k1:Keep(fun _=>False)H H1:=by rw[← hH1];exact Keep.push
  have a1:At H1 H.size(manC m vd vc vf):=by rw[← hH1];exact At.push
  have w:=hv.wf
  rw[zAq,zAa,Nat.add_zero,zAV a1,zAa]
  refine zAf(zO3 w.name)?_
  rintro _ h2⟨rfl,k2⟩
  have a2:=a1.keep k2 id
  have k12:=k1.trans k2
  unfold manOkG manOk
  cases h1:nameOk m.name
  · simp only[zAl,Bool.not_true,Bool.not_false,zAh,zAj,zAd,zAb,zAa,if_true,if_false,Bool.false_eq_true,Bool.true_eq_false,decide_true,decide_false,reduceCtorEq,J1_eq,ex20,ex21,ex30,ex31,ex32,zAo,zAm,Bool.false_and]
    exact⟨by trivial,k12⟩
  simp only[zAq,Nat.zero_add,zCq a2 w,zAl,Bool.not_true,Bool.not_false,zAh,zAj,zAd,zAb,zAa,if_true,if_false,Bool.false_eq_true,Bool.true_eq_false,decide_true,decide_false,reduceCtorEq,J1_eq,ex20,ex21,ex30,ex31,ex32,zAo,zAm]
  refine zAf(zKr w.ver)?_
  rintro _ h3⟨rfl,k3⟩
  have a3:=a2.keep k3 id
  have k13:=k12.trans k3
  cases h2:verOk m.ver
  · simp only[zAl,Bool.not_true,Bool.not_false,zAh,zAj,zAd,zAb,zAa,if_true,if_false,Bool.false_eq_true,Bool.true_eq_false,decide_true,decide_false,reduceCtorEq,J1_eq,ex20,ex21,ex30,ex31,ex32,zAo,zAm,Bool.false_and,Bool.and_false]
    exact⟨by trivial,k13⟩
  obtain⟨g5,g6,g7⟩:=zCr a3 w
  simp only[zAq,Nat.zero_add,zK8 a3 w,g5,zAl,Bool.not_true,Bool.not_false,zAh,zAj,zAd,zAb,zAa,if_true,if_false,Bool.false_eq_true,Bool.true_eq_false,decide_true,decide_false,reduceCtorEq,J1_eq,ex20,ex21,ex30,ex31,ex32,zAo,zAm]
  refine zAf(zUk(hv.d.keep k13 fun _ _=>id)w.deps(hO.keep k13 fun _ h=>h.elim)hd)?_
  rintro _ h4⟨rfl,k4⟩
  have a4:=a3.keep k4 id
  have k14:=k13.trans k4
  cases h3:depsOk m.name m.deps
  · simp only[zAl,Bool.not_true,Bool.not_false,zAh,zAj,zAd,zAb,zAa,if_true,if_false,Bool.false_eq_true,Bool.true_eq_false,decide_true,decide_false,reduceCtorEq,J1_eq,ex20,ex21,ex30,ex31,ex32,zAo,zAm,Bool.false_and,Bool.and_false]
    exact⟨by trivial,k14⟩
  obtain⟨g5,g6,g7⟩:=zCr a4 w
  simp only[zAq,Nat.zero_add,zK8 a4 w,g6,zAl,Bool.not_true,Bool.not_false,zAh,zAj,zAd,zAb,zAa,if_true,if_false,Bool.false_eq_true,Bool.true_eq_false,decide_true,decide_false,reduceCtorEq,J1_eq,ex20,ex21,ex30,ex31,ex32,zAo,zAm]
  refine zAf(zUk(hv.c.keep k14 fun _ _=>id)w.conf(hO.keep k14 fun _ h=>h.elim)hc)?_
  rintro _ h5⟨rfl,k5⟩
  have a5:=a4.keep k5 id
  have k15:=k14.trans k5
  cases h4:depsOk m.name m.conf
  · simp only[zAl,Bool.not_true,Bool.not_false,zAh,zAj,zAd,zAb,zAa,if_true,if_false,Bool.false_eq_true,Bool.true_eq_false,decide_true,decide_false,reduceCtorEq,J1_eq,ex20,ex21,ex30,ex31,ex32,zAo,zAm,Bool.false_and,Bool.and_false]
    exact⟨by trivial,k15⟩
  simp only[zK8 a5 w,zAl,Bool.not_true,Bool.not_false,zAh,zAj,zAd,zAb,zAa,if_true,if_false,Bool.false_eq_true,Bool.true_eq_false,decide_true,decide_false,reduceCtorEq,J1_eq,ex20,ex21,ex30,ex31,ex32,zAo,zAm]
  refine zAf(zV0(hv.keep k15 fun _ _=>id))?_
  rintro _ h6⟨rfl,k6⟩
  simp only[zAl,Bool.not_true,Bool.not_false,zAh,zAj,zAd,zAb,zAa,if_true,if_false,Bool.false_eq_true,Bool.true_eq_false,decide_true,decide_false,reduceCtorEq,J1_eq,ex20,ex21,ex30,ex31,ex32,zAo,zAm,Bool.true_and]
  exact⟨by trivial,k15.trans k6⟩
end Go.Proofs.YticdfkoncnnmmaaGreatDoor
