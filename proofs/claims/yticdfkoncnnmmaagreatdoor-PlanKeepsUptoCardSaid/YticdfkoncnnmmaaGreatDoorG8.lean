import Derived.Test.YticdfkoncnnmmaaGreatDoorG6
import Derived.Test.YticdfkoncnnmmaaGreatDoorG1
import Derived.MapKept
import Derived.Maps.RangeRun
set_option linter.unusedSimpArgs false
set_option linter.unusedVariables false
set_option maxRecDepth 100000
namespace Go.Proofs.YticdfkoncnnmmaaGreatDoor
open Go.X Go.X.Diff
theorem zAgs {c:Array Value}{o j n:Nat}{x:List Value}{w:Value}(hx:x.length=n)(hle:o+n<=c.size)(hj:j<n)(hc:(c.toList.drop o).take n=x):spl c o (x.set j w).toArray=c.setIfInBounds (o+j) w:=by
 apply Array.ext'
 rw[zBY]
 unfold spl
 show List.take o c.toList++x.set j w++List.drop (o+(x.set j w).toArray.size) c.toList=_
 have hsz:(x.set j w).toArray.size=n:=by simp[hx]
 rw[hsz]
 have e:c.toList=List.take o c.toList++(x++List.drop (o+n) c.toList):=by
  rw[<- hc,<- zCz,zBn,zBn]
 have hlt:(List.take o c.toList).length=o:=by rw[zBe];simp;omega
 conv=>rhs;rw[e]
 rw[zCH _ _ (by rw[hlt];omega),hlt,zCB,List.set_append_left _ _ (by omega),zBi]
theorem _root_.Go.X.BufE.st {n:Nat}{F:zAY}{H:zAw}{v:Value}{xs:List (List Value)}(h:BufE n F H v xs){i j:Nat}{x:List Value}(hi:xs[i]? = some x)(hj:j<n){w:Value}(hw:w.oneCell'=true) :
  ∃ b o H',(∀ k,ixS n v (.int k i)=some (Ptr b o))/\Pt H b o x/\st1 H (Ptr b (o+j)) w=some H'/\BufE n F H' v (xs.set i (x.set j w))/\Keep F H H':=by
 obtain⟨hlt,hxe⟩:=zAP.1 hi
 have hxl:x.length=n:=h.1 x (by rw[<- hxe];exact zAE _)
 have hx1:∀ c∈x,c.oneCell'=true:=h.2.1 x (by rw[<- hxe];exact zAE _)
 have h1:∀ c∈x.set j w,c.oneCell'=true:=λc hc=>by
  rcases List.mem_or_eq_of_mem_set hc with hc|rfl
  ·exact hx1 c hc
  ·exact hw
 obtain⟨p,H',hip,hst,hb,hk⟩:=h.set hlt (x:=x.set j w) (by simp[hxl]) h1
 obtain⟨b,o,hib,hpt,_⟩:=h.sl.at hi
 have hpe:p=Ptr b o:=zAF ((hip .i64).symm.trans (hib .i64))
 subst hpe
 refine⟨b,o,H',hib,hpt,?_,hb,hk⟩
 obtain⟨c,T,f,hbb,hle,hc⟩:=hpt
 simp only[stN]at hst
 rw[if_pos (by simp[hxl])]at hst
 unfold stA at hst
 rw[hbb]at hst
 simp only at hst
 split at hst
 ·rename_i hcnd
  obtain⟨c1,c2,c3⟩:=hcnd
  simp only[st1,hbb]
  have hth:zTw f (o+j) 1=true:=by
   unfold zTw at c2 ⊢
   simp only[zCg,List.length_set,hxl,zBX,decide_eq_true_eq]at c2 ⊢
   omega
  rw[if_pos ⟨by omega,hth,hw⟩,<- hst]
  rw[hxl]at hc hle
  rw[zAgs hxl hle hj hc]
 ·cases hst
theorem zVX {P:Program}{T:TypeId}{H:zAw}{k:zAn}(hk:k (.map (some H.size)) (H.push (.map #[] 0))):zPf P (Instr.makeMap T none) H k:=λw hw=>by
 subst hw
 refine⟨.map (some w.heap.size),{ w with heap:=w.heap.push (.map #[] 0) },?_,⟨rfl,rfl,rfl,zFu.push⟩,hk⟩
 simp[Instr.makeMap]
def zNU (H:zAw)(q:Nat)(es:List (Value×Value)):Prop:=∃ (arr:Array MapEntry) (clock:Nat),H[q]? = some (.map arr clock)/\arr.toList.map (λe=>(e.key,e.val))=es/\(∀ e∈arr.toList,e.born<clock)/\(arr.toList.map (·.born)).Nodup
theorem zNU.keep {H H':zAw}{q:Nat}{es:List (Value×Value)}{S:zAY}(h:zNU H q es)(k:Keep S H H')(hs:¬ S q):zNU H' q es:=by
 obtain⟨a,c,h1,h2⟩:=h
 exact⟨a,c,k.at h1 hs,h2⟩
theorem zNU.new {H:zAw}:zNU (H.push (.map #[] 0)) H.size []:=⟨#[],0,zCh,rfl,(λe h=>by cases h),List.nodup_nil⟩
open Go.MapKept
def zAjf (P:Program)(mty:TypeId)(d:TypeDesc)(z:Value):Prop:=∃ kt et,P.underlying mty=some (.map kt et)/\P.underlying kt=some d/\∀ w:World,(zeroValue et).run P w = .ok z w
def zAgt (ok:Bool)(v:Value)(b:Bool):Value:=if ok then .tuple #[v,.bool b] else v
theorem zT3 {arr:Array MapEntry}{es:List (Value×Value)}(h:arr.toList.map (λe=>(e.key,e.val))=es){j:Nat}{e:MapEntry}(hj:arr.toList[j]? = some e):es[j]? = some (e.key,e.val):=by
 rw[<- h,zAq,hj];rfl
theorem zYq {P:Program}{mty:TypeId}{d:TypeDesc}{z key:Value}{ok:Bool}{H:zAw}{q:Nat}{es:List (Value×Value)}{k:zAn}(hT:zAjf P mty d z)(hm:zNU H q es)(hks:∀ x∈es,IsKey d x.1)(hk:IsKey d key)
  (h1:∀ v,(key,v)∈es->k (zAgt ok v true) H) (h2:(∀ x∈es,x.1≠key)->k (zAgt ok z false) H):zPf P (Instr.lookup mty (.map (some q)) key ok) H k:=λw hw=>by
 subst hw
 obtain⟨kt,et,t1,t2,t3⟩:=hT
 obtain⟨arr,clock,hb,he,hbn,hnd⟩:=hm
 have hks':∀ x∈arr.toList,IsKey d x.key:=λx hx=>hks (x.key,x.val) (by rw[<- he];exact zAo.2 ⟨x,hx,rfl⟩)
 rcases findNow_spec hk arr.toList 0 hks' with ⟨f1,f2⟩|⟨j,e,f1,f2,f3⟩
 ·refine⟨zAgt ok z false,w,?_,zIU.rfl' _,h2 λx hx=>?_⟩
  ·cases ok<;>simp[Instr.lookup,run_underlying t1,Go.MapKept.run_getObj_map hb,run_checkKey t2 hk,run_findKey t2 f1,t3,Result.andThen,zAgt]
  ·rw[<- he]at hx
   obtain⟨y,hy,rfl⟩:=zAo.1 hx
   exact f2 y hy
 ·refine⟨zAgt ok e.val true,w,?_,zIU.rfl' _,h1 _ ?_⟩
  ·cases ok<;>simp[Instr.lookup,run_underlying t1,Go.MapKept.run_getObj_map hb,run_checkKey t2 hk,run_findKey t2 f1,Result.andThen,zAgt]
  ·have:=zT3 he f2
   rw[f3]at this
   exact zAC this
theorem zS1 {arr:Array MapEntry}{j:Nat}{key val:Value}:(arr.modify j λe=>{ e with key:=key,val:=val }).toList.map (·.born)=arr.toList.map (·.born):=by
 apply zCI
 intro i
 rw[zAq,zAq,Array.toList_modify,List.getElem?_modify]
 by_cases h:j=i
 ·subst h
  cases arr.toList[j]? <;> simp
 ·simp[h]
theorem zYr {P:Program}{mty:TypeId}{d:TypeDesc}{z key val:Value}{H:zAw}{q:Nat}{es:List (Value×Value)}{k:zAn}(hT:zAjf P mty d z)(hm:zNU H q es)(hks:∀ x∈es,IsKey d x.1)(hk:IsKey d key)
  (h1:∀ j v H',es[j]? = some (key,v)->zNU H' q (es.set j (key,val))->Keep (· = q) H H'->k undef H') (h2:∀ H',(∀ x∈es,x.1≠key)->zNU H' q (es++[(key,val)])->Keep (· = q) H H'->k undef H'):Msu P (Instr.mapUpdate mty (.map (some q)) key val) H k:=λw hw=>by
 subst hw
 obtain⟨kt,et,t1,t2,t3⟩:=hT
 obtain⟨arr,clock,hb,he,hbn,hnd⟩:=hm
 have hks':∀ x∈arr.toList,IsKey d x.key:=λx hx=>hks (x.key,x.val) (by rw[<- he];exact zAo.2 ⟨x,hx,rfl⟩)
 have hsol:∀ o:Obj,(∀ ds,o ≠ .deferred ds)->zFu w.heap (w.heap.setIfInBounds q o):=λo ho i ds hi=>by
  rw[zAD]
  split
  ·rename_i e;subst e;rw[hb]at hi;cases hi
  ·exact hi
 rcases findNow_spec hk arr.toList 0 hks' with ⟨f1,f2⟩|⟨j,e,f1,f2,f3⟩
 ·refine⟨{ w with heap:=w.heap.setIfInBounds q (.map (arr.push { key,val,born:=clock }) (clock+1)) },?_,⟨rfl,rfl,rfl,hsol _ (λ_ e=>by cases e)⟩,h2 _ (λx hx=>?_) ⟨_,_,(heap_set hb).1,?_,?_,?_⟩ (Keep.set rfl)⟩
  ·simp[Instr.mapUpdate,run_underlying t1,Go.MapKept.run_getObj_map hb,run_checkKey t2 hk,run_findKey t2 f1,Go.MapKept.run_setObj_map _ hb,Result.andThen]
  ·rw[<- he]at hx
   obtain⟨y,hy,rfl⟩:=zAo.1 hx
   exact f2 y hy
  ·rw[Array.toList_push,zAN,he];rfl
  ·intro x hx
   rw[Array.toList_push]at hx
   rcases zAr.1 hx with hx|hx
   ·have:=hbn x hx;omega
   ·rw[zAI.1 hx];show clock<clock+1;omega
  ·rw[Array.toList_push,zAN,zCw]
   refine⟨hnd,by simp,λa ha b hb' e=>?_⟩
   obtain⟨x,hx,rfl⟩:=zAo.1 ha
   have hb'':b=clock:=by simpa using hb'
   have:=hbn x hx;omega
 ·have hj:arr[j]? = some e:=by simpa using f2
  have hes:=zT3 he f2
  rw[f3]at hes
  refine⟨{ w with heap:=w.heap.setIfInBounds q (.map (arr.modify j λe=>{ e with key:=key,val:=val }) clock) },?_,⟨rfl,rfl,rfl,hsol _ (λ_ e=>by cases e)⟩,h1 j e.val _ hes ⟨_,_,(heap_set hb).1,?_,?_,?_⟩ (Keep.set rfl)⟩
  ·simp[Instr.mapUpdate,run_underlying t1,Go.MapKept.run_getObj_map hb,run_checkKey t2 hk,run_findKey t2 f1,hj,f3,run_keyThatStays hk,Go.MapKept.run_setObj_map _ hb,Result.andThen]
  ·rw[<- he]
   apply zCI
   intro i
   rw[Array.toList_modify,zAq,List.getElem?_modify,List.getElem?_set]
   by_cases hij:j=i
   ·subst hij
    obtain⟨hlt,_⟩:=zAP.1 f2
    have hlt':j<arr.size:=by simpa using hlt
    simp[f2,hlt']
   ·rw[if_neg hij]
    simp[hij]
  ·intro x hx
   have:x.born∈arr.toList.map (·.born):=by rw[<- zS1 (j:=j) (key:=key) (val:=val)];exact zAo.2 ⟨x,hx,rfl⟩
   obtain⟨y,hy,e⟩:=zAo.1 this
   rw[<- e];exact hbn y hy
  ·rw[zS1];exact hnd
def zZm (H:zAw)(r q:Nat)(es:List (Value×Value))(vis:List Nat):Prop:=∃ (arr:Array MapEntry) (clock:Nat) (seen:Array Nat),H[q]? = some (.map arr clock)/\arr.toList.map (λe=>(e.key,e.val))=es/\(∀ e∈arr.toList,e.born<clock)/\(arr.toList.map (·.born)).Nodup /\
 H[r]? = some (.mapIter (some q) clock seen clock)/\r≠q/\vis.Nodup/\(∀ i∈vis,i<arr.size)/\(∀ i (h:i<arr.size),arr[i].born∈seen↔i∈vis)/\seen.toList=vis.map λi=>(arr[i]?.map (·.born)).getD 0
theorem zZm.keep {H H':zAw}{r q:Nat}{es:List (Value×Value)}{vis:List Nat}{S:zAY}(h:zZm H r q es vis)(k:Keep S H H')(hr:¬ S r)(hq:¬ S q):zZm H' r q es vis:=by
 obtain⟨arr,clock,seen,h1,h2,h3,h4,h5,h6⟩:=h
 exact⟨arr,clock,seen,k.at h1 hq,h2,h3,h4,k.at h5 hr,h6⟩
theorem zZm.map {H:zAw}{r q:Nat}{es:List (Value×Value)}{vis:List Nat}(h:zZm H r q es vis):zNU H q es:=by
 obtain⟨arr,clock,seen,h1,h2,h3,h4,_⟩:=h
 exact⟨arr,clock,h1,h2,h3,h4⟩
theorem zAdD {P:Program}{T k' e:TypeId}{H:zAw}{q:Nat}{es:List (Value×Value)}{k:zAn}(ht:P.underlying T=some (.map k' e))(hm:zNU H q es)(hk:∀ H',zZm H' H.size q es []->Keep zAK H H'->k (Ptr H.size 0) H'):zPf P (Instr.range T (.map (some q))) H k:=λw hw=>by
 subst hw
 obtain⟨arr,clock,hb,he,hbn,hnd⟩:=hm
 refine⟨_,_,run_range_map w T k' e q arr clock ht hb,⟨rfl,rfl,rfl,zFu.push⟩,hk _ ⟨arr,clock,#[],zR6 hb,he,hbn,hnd,zCh,?_,List.nodup_nil,(λi h=>by cases h),(λi h=>by simp),rfl⟩ Keep.push⟩
 have:=lt_of hb;omega
theorem zAgu {P:Program}{T:TypeId}{H:zAw}{r q:Nat}{es:List (Value×Value)}{vis:List Nat}{k:zAn}(hI:zZm H r q es vis)
  (h1:∀ (i:Nat) (x:Value×Value),es[i]? = some x->i∉vis->∀ H',zZm H' r q es (vis++[i])->Keep (· = r) H H'->k (.tuple #[.bool true,x.1,x.2]) H') (h2:(∀ i,i<es.length->i∈vis)->k (.tuple #[.bool false]) H) :
  zPf P (Instr.next (Ptr r 0) false T) H k:=λw hw=>by
 subst hw
 obtain⟨arr,clock,seen,hb,he,hbn,hnd,hr,hrq,hv,hvl,hs,hsv⟩:=hI
 have hlen:es.length=arr.size:=by rw[<- he];simp
 rcases run_next_at w T r q clock clock seen arr clock hr hb hbn (zAi _) with ⟨h0,hrun⟩|⟨e,hel,w1,hw1,hrun⟩
 ·refine⟨_,w,hrun,zIU.rfl' _,h2 λi hi=>?_⟩
  have hi':i<arr.size:=by omega
  refine(hs i hi').1 ?_
  have:¬ arr[i]∈leftOf arr seen:=λhm=>by
   have:=Array.size_pos_of_mem hm;omega
  unfold leftOf at this
  rw[Array.mem_filter]at this
  simpa using this
 ·have hem:e∈leftOf arr seen:=by simpa using hel
  unfold leftOf at hem
  rw[Array.mem_filter]at hem
  obtain⟨hea,hns⟩:=hem
  obtain⟨i,hi,rfl⟩:=Array.getElem_of_mem hea
  have hnv:i∉vis:=λh=>by
   have:=(hs i hi).2 h
   simp[this]at hns
  have hh:(w1.heap:zAw)=w.heap:=by rcases hw1 with rfl|rfl<;>rfl
  have hsame:zIU w w1:=by
   rcases hw1 with rfl|rfl
   ·exact zIU.rfl' _
   ·exact⟨rfl,rfl,rfl,zFu.rfl'⟩
  have hset:(ChangeMaps.setBlock w1 r (.mapIter (some q) clock (seen.push arr[i].born) clock)).heap=(w.heap:zAw).setIfInBounds r (.mapIter (some q) clock (seen.push arr[i].born) clock):=by
   show(w1.heap:zAw).setIfInBounds r _=_
   rw[hh]
  refine⟨_,_,hrun,⟨hsame.os,hsame.tape,hsame.output,?_⟩,?_⟩
  ·rw[hset]
   intro j ds hj
   rw[zAD]
   split
   ·rename_i e;subst e;rw[hr]at hj;cases hj
   ·exact hj
  ·rw[hset]
   refine h1 i (arr[i].key,arr[i].val) ?_ hnv _ ⟨arr,clock,seen.push arr[i].born,?_,he,hbn,hnd,zBh hr,hrq,?_,?_,?_,by rw[Array.toList_push,hsv,zAN];simp[hi]⟩ (Keep.set rfl)
   ·rw[<- he,zAq]
    simp[hi]
   ·exact zAaE hb hrq
   ·rw[zCw]
    exact⟨hv,by simp,λa ha b hb e=>by simp at hb;subst hb;subst e;exact hnv ha⟩
   ·intro j hj
    rcases zAr.1 hj with hj|hj
    ·exact hvl j hj
    ·rw[zAI.1 hj];exact hi
   ·intro j hj
    rw[Array.mem_push,hs j hj,zAr,zAI]
    refine or_congr Iff.rfl ⟨λe=>?_,λe=>by subst e;rfl⟩
    have hp:=zBC.1 (zBw.1 (zBT.1 hnd))
    have hjl:j<arr.toList.length:=by simpa using hj
    have hil:i<arr.toList.length:=by simpa using hi
    rcases Nat.lt_trichotomy j i with h|h|h
    ·exact absurd e (by simpa using hp j i hjl hil h)
    ·exact h
    ·exact absurd e.symm (by simpa using hp i j hil hjl h)
theorem zAdE {P:Program}{H:zAw}{r q i:Nat}{es:List (Value×Value)}{vis:List Nat}{x:Value×Value}{k:zAn}(hI:zZm H r q es (vis++[i]))(hx:es[i]? = some x)(hk:k (.tuple #[x.1,x.2]) H):zPf P (Instr.entry (Ptr r 0)) H k:=λw hw=>by
 subst hw
 obtain⟨arr,clock,seen,hb,he,hbn,hnd,hr,hrq,hv,hvl,hs,hsv⟩:=hI
 have hi:i<arr.size:=hvl i (by simp)
 have hseen:seen=(vis.map λi=>(arr[i]?.map (·.born)).getD 0).toArray.push arr[i].born:=by
  apply Array.ext'
  rw[hsv,zAN,Array.toList_push]
  simp[hi]
 rw[hseen]at hr
 have hxe:x=(arr[i].key,arr[i].val):=by
  rw[<- he,zAq]at hx
  simp[hi]at hx
  exact hx.symm
 subst hxe
 exact⟨_,w,run_entry_at w r q clock _ arr clock arr[i] hr hb (by simp) hnd,zIU.rfl' w,hk⟩
def zNx (a b:List UInt8):Bool:=decide (a=b) || (decide ((b++[47]).length<=a.length)&&decide (a.take (b++[47]).length=b++[47]))
theorem zAbj {H:zAw}{a b:List UInt8}(hb:b.length<=1048576):zAA prg zIj [str a,str b] H λu H'=>u = .bool (zNx a b)/\Keep zAK H H':=by
 apply zNL
 unfold zNm
 have e:=λq=>zDx (q:=q) (a:=a) (b:=b)
 have s:(Value.string ⟨#[47]⟩)=str [47]:=rfl
 rw[e,zAa,s]
 unfold zNx
 cases h:decide (a=b)
 ·simp only[zBN,zAL,if_true,zCC]
  rw[zW3 (by simp;omega),zAa]
  refine zAM (R:=λu H'=>u = .bool (decide ((b++[47]).length<=a.length)&&decide (a.take (b++[47]).length=b++[47]))/\H=H') ?_ ?_
  ·apply zHH
   unfold zHR
   refine zAM zSU ?_
   rintro _ _ ⟨rfl,rfl⟩
   exact⟨rfl,rfl⟩
  ·rintro _ _ ⟨rfl,rfl⟩
   simp only[zAt,zAb,if_false,zAa]
   exact⟨by trivial,Keep.refl⟩
 ·simp only[zBN,zAL,zAc,if_false,zAt,if_true,zAa,Bool.true_or]
  exact⟨by trivial,Keep.refl⟩
def fnL:List UInt8:=[97,98,99,100,101,102,103,104,105,106,107,108,109,110,111,112,113,114,115,116,117,118,119,120,121,122,48,49,50,51,52,53,54,55,56,57,46,95,45]
def zL5 (w:List UInt8):Bool:=!decide (w=[]) && !decide (w=[46]) && !decide (w=[46,46])&&decide (zNq fnL (zMZ fnL w)=[])
def zZV (l:List UInt8):Bool:=!decide (l=[])&&decide (l.length<=64)&&(zDJ 47 l).all zL5
structure FnI (H:zAw)(l:List UInt8)(j:Nat)(h:zAw):Prop where
 a:At h H.size [.bool false]
 ok:((zDJ 47 l).take j).all zL5=true
 k:Keep zAK H h
theorem FnI.keep {H:zAw}{l:List UInt8}{j:Nat}{h h':zAw}{S:zAY}(p:FnI H l j h)(k:Keep S h h')(hs:∀ b,S b->H.size<b):FnI H l j h' :=
 ⟨p.a.keep k λhS=>by have:=hs _ hS;omega,p.ok,p.k.fresh k λb hb=>by have:=hs b hb;omega⟩
theorem zAgv:zBF prg zVB=some [Value.bool false].toArray:=by kernel_rfl
set_option maxHeartbeats 2000000 in
theorem zXa {H:zAw}{l:List UInt8}:zAA prg zOy [str l] H λu H'=>u = .bool (zZV l)/\Keep zAK H H':=by
 apply zPR
 unfold zQw
 simp only[zAgv,zBd]
 generalize hH1:H.push (.cells [Value.bool false].toArray zVB (0,0))=H1
 have k1:Keep zAK H H1:=by rw[<- hH1];exact Keep.push
 have a1:At H1 H.size [.bool false]:=by rw[<- hH1];exact At.push
 have s1:H1.size=H.size+1:=by rw[<- hH1];simp
 have s0:(Value.string ⟨#[]⟩)=str []:=rfl
 have s47:(Value.string ⟨#[47]⟩)=str [47]:=rfl
 have s46:(Value.string ⟨#[46]⟩)=str [46]:=rfl
 have s446:(Value.string ⟨#[46,46]⟩)=str [46,46]:=rfl
 have sfn:(Value.string ⟨#[97,98,99,100,101,102,103,104,105,106,107,108,109,110,111,112,113,114,115,116,117,118,119,120,121,122,48,49,50,51,52,53,54,55,56,57,46,95,45]⟩)=str fnL:=rfl
 have e0:=λq=>zDx (q:=q) (a:=l) (b:=[])
 have e64:zAB .no .gtr (.int .i64 (l.length:Nat)) (.int .i64 64)=some (.bool (decide (l.length > 64))):=zAh7
 rw[s0,s47,s46,s446,sfn,e0,zAa]
 have no:∀ h,At h H.size [.bool false]->Keep zAK H h->zZV l=false->Mwr (st1 h (Ptr H.size 0) (.bool false)) λh4=>Mcl H.size h4 λh5=>Mpu (ld1 h5 (Ptr H.size 0)) λr6=>r6 = .bool (zZV l)/\Keep zAK H h5:=λh a kh hf=>by
  obtain⟨h4,st4,a4,k4⟩:=a.st1 (i:=0) (v := .bool false) (by simp) rfl
  rw[st4,zA0]
  refine zUK λh5 hc=>?_
  have d:ld1 h5 (Ptr H.size 0)=some (.bool false):=(a4.closed hc).ld rfl
  rw[d,zAa]
  exact⟨by rw[hf],zHs (kh.fresh k4 λb hb=>by omega) hc⟩
 cases hnil:decide (l=[])
 rotate_left
 ·simp only[zBN,zAL,zAc,if_false,zAt,if_true,zAa,zAl]
  exact no H1 a1 k1 (by unfold zZV;rw[hnil];rfl)
 refine zBN.2 ?_
 rw[zAL,if_pos rfl,zEL,zAa,e64,zAa]
 cases h64:decide (l.length > 64)
 rotate_left
 ·simp only[zAt,if_true,zAb,if_false,zAa,zAl]
  exact no H1 a1 k1 (by unfold zZV;rw[hnil,decide_eq_false (show ¬ l.length<=64 by have:=of_decide_eq_true h64;omega)];rfl)
 have hl:l.length<=64:=by have:=of_decide_eq_false h64;omega
 have hfo:zZV l=(zDJ 47 l).all zL5:=by unfold zZV;rw[hnil,decide_eq_true hl];rfl
 rw[zAt,if_neg (by decide),zAa,zAl,if_neg (by decide)]
 refine zAM zTY ?_
 rintro _ h5 ⟨qs,qp,qn,rfl,hst,hq,k5⟩
 have g5:=k5.1
 have k05:=k1.trans k5
 have inv0:FnI H l 0 h5:=⟨a1.keep k5 id,rfl,k05⟩
 have hxl:((zDJ 47 l).map λx=>[str x]).length=(zDJ 47 l).length:=by simp
 refine range_i (xs:=(zDJ 47 l).map λx=>[str x]) (S:=λb=>b=qs\/b=qp\/b=qn) (W:=λb=>b=H.size\/h5.size+2<=b) (St:=zPZ qs qp qn l 47)
  (zTX (by omega)) (λo o'=>?_) k05.1
  (FnI H l) (λc h=>c = .ret/\(zDJ 47 l).all zL5=false/\At h H.size [.bool false]/\Keep zAK H h) inv0
  (λi h h' hI k=>hI.keep k λb hb=>?_) (λc h h' hX k=>?_) (λb hb=>(hq b hb).2) (λb hb=>?_) ?_ ?_ ?_
 ·have kp:Keep zAK h5 ((h5.push o).push o'):=Keep.push.trans Keep.push
  exact⟨hst.s.keep kp id,hst.p.keep kp id,hst.n.keep kp id,hst.ne⟩
 ·rcases hb with hb|rfl|rfl
  ·have:=hq b hb;omega
  ·omega
  ·omega
 ·obtain⟨rfl,x0,x1,x4⟩:=hX
  have nb:∀ b,(b=qs\/b=qp\/b=qn)\/b=h5.size\/b=h5.size+1->H.size<b:=λb hb=>by
   rcases hb with hb|rfl|rfl
   ·have:=hq b hb;omega
   ·omega
   ·omega
  exact⟨rfl,x0,x1.keep k λhb=>by have:=nb _ hb;omega,x4.fresh k λb hb=>by have:=nb b hb;omega⟩
 ·refine⟨by omega,by omega,λhbq=>?_⟩
  have:=hq b hbq;omega
 ·intro j x h r hx hI hloop hready K hN hEx
  obtain⟨y,hy,rfl⟩:∃ y,(zDJ 47 l)[j]? = some y/\x=[str y]:=by
   rw[zAq]at hx
   obtain⟨y,h1,h2⟩:=zBu.1 hx
   exact⟨y,h1,h2.symm⟩
  refine⟨rfl,r,hloop,hready,?_⟩
  have hsz:=lt_of hloop
  generalize hhb:h.setIfInBounds (h5.size+1) (.loop { r with state := .busy })=hb at *
  have kb:Keep (· = h5.size+1) h hb:=by rw[<- hhb];exact Keep.set rfl
  have gb:=kb.1
  have hI:=hI.keep kb λb hb=>by omega
  have hmem:y∈zDJ 47 l:=zAC hy
  have hyl:=zNu hmem
  have htk:(zDJ 47 l).take (j+1)=(zDJ 47 l).take j++[y]:=by rw[zAJ,hy];rfl
  have bad:∀ h',Keep zAK hb h'->zL5 y=false->Mwr (st1 h' (Ptr H.size 0) (.bool false)) λh21=>K (some Code.ret) h21:=λh' k' hf=>by
   obtain⟨h12,st12,a12,k12⟩:=(hI.a.keep k' id).st1 (i:=0) (v := .bool false) (by simp) rfl
   rw[st12,zA0]
   have kW:Keep (λb=>b=H.size\/h5.size+2<=b) hb h12:=(k'.mono λ_ _ h=>h.elim).trans (k12.mono λb _ h => .inl h)
   exact hEx _ h12 kW ⟨rfl,zCf.2 ⟨y,hmem,by simp[hf]⟩,a12,hI.k.fresh kW λb hb'=>by omega⟩
  have good:∀ h',Keep zAK hb h'->zL5 y=true->K none h':=λh' k' hf=>by
   refine hN h' (k'.mono λ_ _ h=>h.elim) ⟨hI.a.keep k' id,?_,hI.k.trans k'⟩
   rw[htk,zCU,hI.ok];simp[hf]
  have q0:=λq=>zDx (q:=q) (a:=y) (b:=[])
  have q1:=λq=>zDx (q:=q) (a:=y) (b:=[46])
  have q2:=λq=>zDx (q:=q) (a:=y) (b:=[46,46])
  show Mpu (zAB .no .eql (str y) (str [])) _
  rw[q0,zAa]
  cases p0:decide (y=[])
  rotate_left
  ·simp only[zBN,zAL,zAc,if_false,zAt,if_true,zAa,zAl]
   exact bad hb Keep.refl (by unfold zL5;rw[p0];rfl)
  refine zBN.2 ?_
  rw[zAL,if_pos rfl]
  show Mpu (zAB .no .eql (str y) (str [46])) _
  rw[q1,zAa]
  cases p1:decide (y=[46])
  rotate_left
  ·simp only[zBN,zAL,zAc,zAb,if_false,zAt,if_true,zAa,zAl]
   exact bad hb Keep.refl (by unfold zL5;rw[p0,p1];rfl)
  rw[zAt,if_neg (by decide),zAa]
  refine zBN.2 ?_
  rw[zAL,if_pos rfl]
  show Mpu (zAB .no .eql (str y) (str [46,46])) _
  rw[q2,zAa]
  cases p2:decide (y=[46,46])
  rotate_left
  ·simp only[zBN,zAL,zAc,zAb,if_false,zAt,if_true,zAa,zAl]
   exact bad hb Keep.refl (by unfold zL5;rw[p0,p1,p2];rfl)
  rw[zAt,if_neg (by decide),zAa]
  refine zBN.2 ?_
  rw[zAL,if_pos rfl]
  show zA3 prg zGL [str y,str fnL] hb _
  refine zAM (zAaP (cs:=fnL) (by decide) (by decide) (by decide) (by omega)) ?_
  rintro _ h19 ⟨rfl,k19⟩
  have q3:zAB .no .neq (str (zNq fnL (zMZ fnL y))) (str [])=some (.bool (!decide (zNq fnL (zMZ fnL y)=[]))):=zUG
  rw[q3,zAa]
  show Mpu (zBy (.bool false) (.bool true) (.bool (!decide (zNq fnL (zMZ fnL y)=[])))) _
  rw[zAt,if_neg (by decide),zAa,zAl]
  have hpo:zL5 y=decide (zNq fnL (zMZ fnL y)=[]):=by unfold zL5;rw[p0,p1,p2];rfl
  cases p3:decide (zNq fnL (zMZ fnL y)=[])
  ·rw[if_pos (show(!false)=true from rfl)]
   exact bad h19 k19 (by rw[hpo,p3])
  ·rw[if_neg (show ¬ (!true)=true by decide)]
   exact good h19 k19 (by rw[hpo,p3])
 ·intro h hsz hI
  refine .inl ⟨rfl,?_⟩
  rw[hxl]at hI
  obtain⟨h22,st22,a22,k22⟩:=hI.a.st1 (i:=0) (v := .bool true) (by simp) rfl
  have hok:=hI.ok
  rw[zAs (zAi _)]at hok
  show Mwr (st1 h (Ptr H.size 0) (.bool true)) _
  rw[st22,zA0]
  refine zUK λh23 hc=>?_
  have d:ld1 h23 (Ptr H.size 0)=some (.bool true):=(a22.closed hc).ld rfl
  show Mpu (ld1 h23 (Ptr H.size 0)) _
  rw[d,zAa]
  exact⟨by rw[hfo,hok],zHs (hI.k.fresh k22 λb hb=>by omega) hc⟩
 ·rintro c h hsz ⟨rfl,x0,x1,x4⟩
  refine .inr ⟨rfl,?_⟩
  refine zUK λh25 hc=>?_
  have d:ld1 h25 (Ptr H.size 0)=some (.bool false):=(x1.closed hc).ld rfl
  show Mpu (ld1 h25 (Ptr H.size 0)) _
  rw[d,zAa]
  exact⟨by rw[hfo,x0],zHs x4 hc⟩
theorem zOn {n m:Nat}:zAB .no .lss (.int .i64 (n:Nat)) (.int .i64 (m:Nat))=some (.bool (decide (n<m))):=by
 rw[zAG];simp only[zC9];congr 2;rw[decide_eq_decide];omega
theorem zZW {n m:Nat}:zAB .no .gtr (.int .i64 (n:Nat)) (.int .i64 (m:Nat))=some (.bool (decide (n > m))):=by
 rw[zAG];simp only[zC9];congr 2;rw[decide_eq_decide];omega
theorem zAhi {n m:Nat}:zAB .no .eql (.int .i64 (n:Nat)) (.int .i64 (m:Nat))=some (.bool (decide (n=m))):=by
 rw[zAG];simp only[zC9];congr 2;rw[zA1];simp<;>omega
theorem zAkH {n m:Nat}:zAB .no .neq (.int .i64 (n:Nat)) (.int .i64 (m:Nat))=some (.bool (!decide (n=m))):=by
 rw[zAG];simp only[zC9];congr 2;rw[zA1];simp<;>omega
theorem ltI {x y:Int}:zAB .no .lss (.int .i64 x) (.int .i64 y)=some (.bool (decide (x<y))):=by rw[zAG];rfl
theorem gtI {x y:Int}:zAB .no .gtr (.int .i64 x) (.int .i64 y)=some (.bool (decide (x > y))):=by rw[zAG];rfl
theorem geI {x y:Int}:zAB .no .geq (.int .i64 x) (.int .i64 y)=some (.bool (decide (x>=y))):=by rw[zAG];rfl
theorem eqI {x y:Int}:zAB .no .eql (.int .i64 x) (.int .i64 y)=some (.bool (decide (x=y))):=by
 rw[zAG];simp only[zC9];congr 2
theorem neI {x y:Int}:zAB .no .neq (.int .i64 x) (.int .i64 y)=some (.bool (!decide (x=y))):=by
 rw[zAG];simp only[zC9];congr 2
theorem zQK {p:Nat->Bool}{n i:Nat}(hi:i<n)(h:p i=false):(List.range n).all p=false:=zCf.2 ⟨i,zBS.2 hi,by simp[h]⟩
theorem zPd {p:Nat->Bool}{i:Nat}(h:(List.range i).all p=true)(hb:p i=true):(List.range (i+1)).all p=true:=by
 rw[List.range_succ,zCU,h];simp[hb]
theorem zZn {H:zAw}{d:zHA}(hd:d.wf):zAA prg zEf [.agg (zEm d).toArray] H λu H'=>u=str d.name/\Keep zAK H H':=by
 apply zLX
 unfold zKy
 simp only[zB7,zBd]
 have a:At (H.push (.cells (zEm d).toArray zBr (0,0))) H.size (zEm d):=At.push
 have d0:ld1 (H.push (.cells (zEm d).toArray zBr (0,0))) (Ptr H.size 0)=some (str d.name):=a.ld rfl
 rw[zBk,zAa,zAu,d0,zAa]
 exact⟨rfl,Keep.push⟩
theorem zZo {P:zAY}{H:zAw}{v:Value}{l:List zHA}(hv:SlE 34 P H v (l.map zEm))(hw:∀ d∈l,d.wf)(hl:l.length<=1099511627776) :
  zAA prg zEo [v,.func (.func zEf) #[] #[]] H λu H'=>u = .bool (zQG (l.map (·.name)))/\Keep zAK H H':=by
 apply zHx
 unfold zFR
 have hlen:=hv.len
 rw[zAf]at hlen
 have hln:(l.map (·.name)).length=l.length:=by simp
 have hcall:∀ (d:zHA) (h:zAw) (k:zAn),d.wf->(∀ h',Keep zAK h h'->k (str d.name) h')->zDz prg (.func (.func zEf) #[] #[]) [.agg (zEm d).toArray] h k:=λd h k hd hk =>
  .inl ⟨zEf,#[],#[],rfl,by kernel_rfl,zAA.mono (R:=λu H'=>u=str d.name/\Keep zAK h H') (zZn hd) λu h' hR=>by obtain⟨rfl,k'⟩:=hR;exact hk h' k'⟩
 refine zOd (λ_ h=>zQG (l.map (·.name))=true/\Keep zAK H h) (λk hk=>?_) ?_
 ·refine zKl (λu h=>∃ i:Nat,1<=i/\u = .int .i64 (i:Nat)/\(List.range (min i l.length)).all (zN8 (l.map (·.name)))=true/\Keep zAK H h) (λu _=>match u with | .int _ t=>l.length-t.toNat|_=>0) ⟨1,zAi _,rfl,?_,Keep.refl⟩ ?_
  ·by_cases h0:l.length=0
   ·rw[h0];rfl
   ·rw[zBD (by omega)];rfl
  rintro _ h ⟨i,hi,rfl,hall,kh⟩ k2 hk2
  rw[hlen,zAa,zOn,zAa,zAl]
  by_cases hlt:i<l.length
  ·rw[if_pos (by simpa using hlt)]
   have hg:l[i]? = some l[i]:=zAj hlt
   have hg':l[i-1]? = some (l[i-1]'(by omega)):=zAj (by omega)
   have hvh:=hv.keep kh λ_ _=>id
   obtain⟨b,o,hix,hpt,_⟩:=hvh.at (i:=i) (x:=zEm l[i]) (by rw[zAq,hg];rfl)
   obtain⟨b',o',hix',hpt',_⟩:=hvh.at (i:=i-1) (x:=zEm (l[i-1]'(by omega))) (by rw[zAq,hg'];rfl)
   have hwd:=hw _ (zAE hlt)
   have hwd':=hw _ (zAE (show i-1<l.length by omega))
   have hra:zN8 (l.map (·.name)) i=zVJ (l[i-1]'(by omega)).name l[i].name:=by
    have h0:((l.map (·.name)).getD (i-1) [])=(l[i-1]'(by omega)).name:=by simp[List.getD,hg']
    have h1:((l.map (·.name)).getD i [])=l[i].name:=by simp[List.getD,hg]
    unfold zN8
    rw[h0,h1,decide_eq_false (by omega)];rfl
   generalize l[i]=d at *
   generalize (l[i-1]'(by omega))=d' at *
   have e2:zAB .no .sub (.int .i64 (i:Nat)) (.int .i64 1)=some (.int .i64 ((i-1:Nat):Int)):=by
    rw[zAG];simp only[zC9];rw[zB8 (by omega) (by omega)];congr 2;omega
   rw[e2,zAa,hix' .i64,zAa,hpt'.agg (zEb hwd'),zAa,hix .i64,zAa,hpt.agg (zEb hwd),zAa]
   refine hcall d' h _ hwd' λh5 k5=>?_
   refine⟨(hpt.keep k5 id).agg (zEb hwd),?_⟩
   refine hcall d h5 _ hwd λh6 k6=>?_
   have hge:zAB .no .geq (str d'.name) (str d.name)=some (.bool (!zVJ d'.name d.name)):=by rw[zGw];exact zX1
   rw[hge,zAa,zAl]
   have kk:=kh.trans (k5.trans k6)
   cases hb:zVJ d'.name d.name
   ·rw[if_pos (show(!false)=true from rfl)]
    exact⟨by rw[zYk (i:=i) (by rw[hln];exact hlt) (by rw[hra,hb])],kk⟩
   ·rw[if_neg (by decide),zBU (by omega),zAa]
    refine hk2 _ _ ⟨i+1,by omega,rfl,?_,kk⟩ (by show l.length-(i+1)<l.length-i;omega)
    rw[zBD (by omega)]at hall ⊢
    exact zVR hall (by rw[hra,hb])
  ·rw[if_neg (by simpa using hlt)]
   refine hk _ _ ⟨?_,kh⟩
   rw[Nat.min_eq_right (by omega)]at hall
   unfold zQG
   rw[hln];exact hall
 ·rintro _ h ⟨h1,h2⟩
  exact⟨by rw[h1],h2⟩
def zVY:zHA:=⟨[],[],0⟩
def zRj (l:List zHA)(i j:Nat):Bool:=decide (i=j) || !zNx (l.getD j zVY).name (l.getD i zVY).name
def zJp (l:List zHA)(i:Nat):Bool:=zZV (l.getD i zVY).name && !zNx (l.getD i zVY).name [118,97,114] && !decide ((l.getD i zVY).size<0) && !decide ((l.getD i zVY).size > 1048576)&&(List.range l.length).all (zRj l i)
def zOS (l:List zHA):Bool:=decide (l.length<=64)&&zQG (l.map (·.name))&&(List.range l.length).all (zJp l)
theorem zS2 {α:Type}{l:List α}{i:Nat}{x z:α}(h:l[i]? = some x):l.getD i z=x:=by simp[List.getD,h]
theorem zAeT {l:List UInt8}(h:zZV l=true):l.length<=64:=by
 unfold zZV at h
 simp only[zAm,decide_eq_true_eq]at h
 exact h.1.2
theorem zXb:zBF prg zBr=some (zEm ⟨[],List.replicate 32 0,0⟩).toArray:=by kernel_rfl
theorem zAdF:(⟨[],List.replicate 32 0,0⟩:zHA).wf:=⟨by simp,by simp,by simp⟩
set_option maxHeartbeats 4000000 in
theorem zAdG {P:zAY}{H:zAw}{m:Man}{vd vc vf:Value}(hv:zL6 P H m vd vc vf) :
  zAA prg zFH [.agg (zGU m vd vc vf).toArray] H λu H'=>u = .bool (zOS m.files)/\Keep zAK H H':=by
 apply zJv
 unfold zHG
 simp only[zB7,zBd,zBk,zAh,zAu,zAa]
 generalize hH1:H.push (.cells (zGU m vd vc vf).toArray zAg (0,0))=H1
 have k1:Keep zAK H H1:=by rw[<- hH1];exact Keep.push
 have a1:At H1 H.size (zGU m vd vc vf):=by rw[<- hH1];exact At.push
 have w:=hv.wf
 have d7:∀ h,Keep zAK H1 h->ld1 h (Ptr H.size 7)=some vf:=λh k=>(zHT (a1.keep k id) w).2.2
 have hf:=hv.f
 generalize hL:m.files=l at *
 have hlen:=hf.len
 rw[zAf]at hlen
 have hwl:∀ f∈l,f.wf:=λf hf=>w.files f (by rw[hL];exact hf)
 have e64:zAB .no .gtr (.int .i64 (l.length:Nat)) (.int .i64 64)=some (.bool (decide (l.length > 64))):=zZW (m:=64)
 rw[d7 _ Keep.refl,zAa,hlen,zAa,e64,zAa]
 cases h64:decide (l.length > 64)
 rotate_left
 ·simp only[zBN,zAL,zAc,if_false,zAt,if_true,zAa,zAl]
  exact⟨by unfold zOS;rw[decide_eq_false (show ¬ l.length<=64 by have:=of_decide_eq_true h64;omega)];rfl,k1⟩
 have hl:l.length<=64:=by have:=of_decide_eq_false h64;omega
 refine zBN.2 ?_
 rw[zAL,if_pos rfl,zAa]
 refine zAM (zZo (hf.keep k1 λ_ _=>id) hwl (by omega)) ?_
 rintro _ h3 ⟨rfl,k3⟩
 have k13:=k1.trans k3
 have hfo:zOS l=(zQG (l.map (·.name))&&(List.range l.length).all (zJp l)):=by unfold zOS;rw[decide_eq_true hl];rfl
 rw[zA5,zAa]
 cases hr:zQG (l.map (·.name))
 ·simp only[zAd,zAt,zAb,if_false,if_true,zAa,zAl]
  exact⟨by rw[hfo,hr];rfl,k13⟩
 rw[hr,zA9]at hfo
 rw[zAe,zAt,if_neg (by decide),zAa,zAl,if_neg (by decide)]
 refine zOd (λ_ h=>(List.range l.length).all (zJp l)=true/\Keep zAK H h) (λk hk=>?_) ?_
 rotate_left
 ·rintro _ h ⟨h1,h2⟩
  exact⟨by rw[hfo,h1],h2⟩
 rw[d7 _ k3,zAa,hlen,zAa]
 refine zKl (λu h=>∃ i:Nat,i<=l.length/\u = .int .i64 (i:Nat)/\(List.range i).all (zJp l)=true/\Keep zAK h3 h) (λu _=>match u with | .int _ t=>l.length-t.toNat|_=>0) ⟨0,zAz _,rfl,rfl,Keep.refl⟩ ?_
 rintro _ h ⟨i,hi,rfl,hall,kh⟩ kk hkk
 rw[zOn,zAa,zAl]
 have k0h:=k13.trans kh
 by_cases hlt:i<l.length
 rotate_left
 ·rw[if_neg (by simpa using hlt)]
  obtain rfl:i=l.length:=by omega
  exact hk _ _ ⟨hall,k0h⟩
 rw[if_pos (by simpa using hlt)]
 have hg:l[i]? = some l[i]:=zAj hlt
 have hgd:=zS2 (z:=zVY) hg
 have hfoi:zJp l i=(zZV l[i].name && !zNx l[i].name [118,97,114] && !decide (l[i].size<0) && !decide (l[i].size > 1048576)&&(List.range l.length).all (zRj l i)):=by unfold zJp;rw[hgd]
 have hap:∀ j,zRj l i j=(decide (i=j) || !zNx (l.getD j zVY).name l[i].name):=λj=>by unfold zRj;rw[hgd]
 have hwf:=hwl _ (zAE hlt)
 generalize l[i]=f at *
 refine J4_i (λ_ _ _ _ h'=>zJp l i=true/\Keep zAK h3 h') (λk9 hk9=>?_) ?_
 rotate_left
 ·rintro _ _ _ _ h' ⟨h1,h2⟩
  rw[zBU (by omega),zAa]
  exact hkk _ _ ⟨i+1,by omega,rfl,zPd hall h1,h2⟩ (by show l.length-(i+1)<l.length-i;omega)
 obtain⟨b,o,hix,hpt,_⟩:=(hf.keep k0h λ_ _=>id).at (i:=i) (x:=zEm f) (by rw[zAq,hg];rfl)
 rw[hix .i64,zAa,hpt.agg (zEb hwf),zAa]
 simp only[zXb,zBd]
 generalize hH11:h.push (.cells (zEm ⟨[],List.replicate 32 0,0⟩).toArray zBr (0,0))=h11
 have k11:Keep zAK h h11:=by rw[<- hH11];exact Keep.push
 have a11:At h11 h.size (zEm ⟨[],List.replicate 32 0,0⟩):=by rw[<- hH11];exact At.push
 obtain⟨h12,st12,a12,k12⟩:=a11.st (n:=34) (ds:=zEm f) (zEb zAdF) (zEb hwf) zNw
 have gh:=kh.1
 have k312:Keep zAK h3 h12:=(kh.trans k11).fresh k12 λb hb=>by omega
 have dn:∀ h',Keep zAK h12 h'->ld1 h' (Ptr h.size 0)=some (str f.name):=λh' k'=>(a12.keep k' id).ld rfl
 have dsz:∀ h',Keep zAK h12 h'->ld1 h' (Ptr h.size 33)=some (.int .i64 f.size):=λh' k'=>(a12.keep k' id).ld (by
  show(zEm f)[33]? = _
  unfold zEm
  rw[zCS,zA6 (by simp[hwf.sum])]
  simp[hwf.sum])
 have svar:(Value.string ⟨#[118,97,114]⟩)=str [118,97,114]:=rfl
 have bad:∀ h',Keep zAK h12 h'->zJp l i=false->(Value.bool false = .bool (zOS l)/\Keep zAK H h'):=λh' k' hb=>⟨by rw[hfo,zQK hlt hb],(k13.trans k312).trans k'⟩
 rw[st12,zA0]
 simp only[zBk,zAh,zAu,zAa]
 rw[dn _ Keep.refl,zAa]
 refine zAM zXa ?_
 rintro _ h13 ⟨rfl,k13'⟩
 rw[zA5,zAa]
 cases q1:zZV f.name
 ·simp only[zAd,zBN,zAL,zAR,zAc,if_false,zAt,if_true,zAa,zAl]
  exact bad _ k13' (by rw[hfoi,q1];rfl)
 rw[zAe]
 refine zBN.2 ?_
 rw[zAL,if_pos rfl,dn _ k13',zAa,svar]
 refine zAM (zAbj (by simp)) ?_
 rintro _ h15 ⟨rfl,k15⟩
 have k1215:=k13'.trans k15
 rw[zAt,if_neg (by decide),zAa]
 cases q2:zNx f.name [118,97,114]
 rotate_left
 ·simp only[zBN,zAL,zAR,zAc,if_false,zAt,if_true,zAa,zAl]
  exact bad _ k1215 (by rw[hfoi,q1,q2];rfl)
 refine zBN.2 ?_
 rw[zAL,if_pos rfl,dsz _ k1215,zAa,ltI,zAa]
 show Mpu (zBy (.bool false) (.bool true) _) _
 rw[zAt,if_neg (by decide),zAa]
 cases q3:decide (f.size<0)
 rotate_left
 ·simp only[zBN,zAL,zAR,zAc,if_false,zAt,if_true,zAa,zAl]
  exact bad _ k1215 (by rw[hfoi,q1,q2,q3];rfl)
 refine zBN.2 ?_
 rw[zAL,if_pos rfl,dsz _ k1215,zAa,gtI,zAa]
 show Mpu (zBy (.bool false) (.bool true) _) _
 rw[zAt,if_neg (by decide),zAa]
 cases q4:decide (f.size > 1048576)
 rotate_left
 ·simp only[zBN,zAL,zAR,zAc,if_false,zAt,if_true,zAa,zAl]
  exact bad _ k1215 (by rw[hfoi,q1,q2,q3,q4];rfl)
 rw[zAl,if_neg (by decide),d7 _ (k3.trans (k312.trans k1215)),zAa,hlen,zAa]
 have hfoi2:zJp l i=(List.range l.length).all (zRj l i):=by rw[hfoi,q1,q2,q3,q4];rfl
 refine zKl (λu h'=>∃ j:Nat,j<=l.length/\u = .int .i64 (j:Nat)/\(List.range j).all (zRj l i)=true/\Keep zAK h15 h') (λu _=>match u with | .int _ t=>l.length-t.toNat|_=>0) ⟨0,zAz _,rfl,rfl,Keep.refl⟩ ?_
 rintro _ g ⟨j,hj,rfl,hallj,kg⟩ k21 hk21
 rw[zOn,zAa,zAl]
 have k12g:=k1215.trans kg
 by_cases hltj:j<l.length
 rotate_left
 ·rw[if_neg (by simpa using hltj)]
  obtain rfl:j=l.length:=by omega
  exact hk9 _ _ _ _ _ ⟨by rw[hfoi2,hallj],k312.trans k12g⟩
 rw[if_pos (by simpa using hltj)]
 have hgj:l[j]? = some l[j]:=zAj hltj
 have hwj:=hwl _ (zAE hltj)
 have hapj:=hap j
 rw[zS2 hgj]at hapj
 generalize l[j]=f2 at *
 obtain⟨b2,o2,hix2,hpt2,_⟩:=(hf.keep ((k13.trans k312).trans k12g) λ_ _=>id).at (i:=j) (x:=zEm f2) (by rw[zAq,hgj];rfl)
 rw[hix2 .i64,zAa,hpt2.agg (zEb hwj),zAa]
 generalize hH23:g.push (.cells (zEm ⟨[],List.replicate 32 0,0⟩).toArray zBr (0,0))=h23
 have k23:Keep zAK g h23:=by rw[<- hH23];exact Keep.push
 have a23:At h23 g.size (zEm ⟨[],List.replicate 32 0,0⟩):=by rw[<- hH23];exact At.push
 obtain⟨h24,st24,a24,k24⟩:=a23.st (n:=34) (ds:=zEm f2) (zEb zAdF) (zEb hwj) zNw
 have gg:=kg.1
 have k1524:Keep zAK h15 h24:=(kg.trans k23).fresh k24 λb hb=>by omega
 have dn2:ld1 h24 (Ptr g.size 0)=some (str f2.name):=a24.ld rfl
 rw[st24,zA0,zAkH,zAa]
 cases q5:decide (i=j)
 ·refine zBN.2 ?_
  rw[zAd,zAL,if_pos rfl,dn2,zAa,dn _ (k1215.trans k1524),zAa]
  have:=zAeT q1
  refine zAM (zAbj (by omega)) ?_
  rintro _ h26 ⟨rfl,k26⟩
  rw[zAt,if_pos rfl,zAa,zAl]
  cases q6:zNx f2.name f.name
  ·rw[if_neg (by decide),zBU (by omega),zAa]
   exact hk21 _ _ ⟨j+1,by omega,rfl,zPd hallj (by rw[hapj,q5,q6];rfl),k1524.trans k26⟩ (by show l.length-(j+1)<l.length-j;omega)
  ·rw[if_pos rfl]
   exact bad _ (k1215.trans (k1524.trans k26)) (by rw[hfoi2];exact zQK hltj (by rw[hapj,q5,q6];rfl))
 ·refine zBN.2 ?_
  rw[zAe,zAL,if_neg (by decide)]
  show Mpu (zBy (.bool false) undef (.bool false)) _
  rw[zAt,if_neg (by decide),zAa,zAl,if_neg (by decide),zBU (by omega),zAa]
  exact hk21 _ _ ⟨j+1,by omega,rfl,zPd hallj (by rw[hapj,q5];rfl),k1524⟩ (by show l.length-(j+1)<l.length-j;omega)
def zIM (m:Man):Bool:=zAgh m&&zOS m.files
theorem zUS {P:zAY}{H:zAw}{m:Man}{vd vc vf:Value}(hv:zL6 P H m vd vc vf)(hd:m.deps.length<=1099511627776)(hc:m.conf.length<=1099511627776)(hO:zQE H) :
  zAA prg zDH [.agg (zGU m vd vc vf).toArray] H λu H'=>u = .bool (zIM m)/\Keep zAK H H':=by
 apply zJu
 unfold zHF
 simp only[zB7,zBd]
 generalize hH1:H.push (.cells (zGU m vd vc vf).toArray zAg (0,0))=H1
 have k1:Keep zAK H H1:=by rw[<- hH1];exact Keep.push
 have a1:At H1 H.size (zGU m vd vc vf):=by rw[<- hH1];exact At.push
 have w:=hv.wf
 rw[zBk,zAa,zAu,zEc a1,zAa]
 refine zAM (zX0 w.name) ?_
 rintro _ h2 ⟨rfl,k2⟩
 have a2:=a1.keep k2 id
 have k12:=k1.trans k2
 unfold zIM zAgh
 cases h1:zMz m.name
 ·simp only[zA5,zAe,zAd,zAL,zAR,zAt,zAl,zAa,if_true,if_false,zAb,zAc,decide_true,decide_false,reduceCtorEq,zBN,zEy,zEz,zEv,zEw,zEx,zBt,zA7,zAV]
  exact⟨by trivial,k12⟩
 simp only[zBk,zAh,zKd a2 w,zA5,zAe,zAd,zAL,zAR,zAt,zAl,zAa,if_true,if_false,zAb,zAc,decide_true,decide_false,reduceCtorEq,zBN,zEy,zEz,zEv,zEw,zEx,zBt,zA7]
 refine zAM (zO8 w.ver) ?_
 rintro _ h3 ⟨rfl,k3⟩
 have a3:=a2.keep k3 id
 have k13:=k12.trans k3
 cases h2:zFU m.ver
 ·simp only[zA5,zAe,zAd,zAL,zAR,zAt,zAl,zAa,if_true,if_false,zAb,zAc,decide_true,decide_false,reduceCtorEq,zBN,zEy,zEz,zEv,zEw,zEx,zBt,zA7,zAV,zBP]
  exact⟨by trivial,k13⟩
 obtain⟨g5,g6,g7⟩:=zHT a3 w
 simp only[zBk,zAh,zVQ a3 w,g5,zA5,zAe,zAd,zAL,zAR,zAt,zAl,zAa,if_true,if_false,zAb,zAc,decide_true,decide_false,reduceCtorEq,zBN,zEy,zEz,zEv,zEw,zEx,zBt,zA7]
 refine zAM (zAeI (hv.d.keep k13 λ_ _=>id) w.deps (hO.keep k13 λ_ h=>h.elim) hd) ?_
 rintro _ h4 ⟨rfl,k4⟩
 have a4:=a3.keep k4 id
 have k14:=k13.trans k4
 cases h3:zPC m.name m.deps
 ·simp only[zA5,zAe,zAd,zAL,zAR,zAt,zAl,zAa,if_true,if_false,zAb,zAc,decide_true,decide_false,reduceCtorEq,zBN,zEy,zEz,zEv,zEw,zEx,zBt,zA7,zAV,zBP]
  exact⟨by trivial,k14⟩
 obtain⟨g5,g6,g7⟩:=zHT a4 w
 simp only[zBk,zAh,zVQ a4 w,g6,zA5,zAe,zAd,zAL,zAR,zAt,zAl,zAa,if_true,if_false,zAb,zAc,decide_true,decide_false,reduceCtorEq,zBN,zEy,zEz,zEv,zEw,zEx,zBt,zA7]
 refine zAM (zAeI (hv.c.keep k14 λ_ _=>id) w.conf (hO.keep k14 λ_ h=>h.elim) hc) ?_
 rintro _ h5 ⟨rfl,k5⟩
 have a5:=a4.keep k5 id
 have k15:=k14.trans k5
 cases h4:zPC m.name m.conf
 ·simp only[zA5,zAe,zAd,zAL,zAR,zAt,zAl,zAa,if_true,if_false,zAb,zAc,decide_true,decide_false,reduceCtorEq,zBN,zEy,zEz,zEv,zEw,zEx,zBt,zA7,zAV,zBP]
  exact⟨by trivial,k15⟩
 simp only[zVQ a5 w,zA5,zAe,zAd,zAL,zAR,zAt,zAl,zAa,if_true,if_false,zAb,zAc,decide_true,decide_false,reduceCtorEq,zBN,zEy,zEz,zEv,zEw,zEx,zBt,zA7]
 refine zAM (zAdG (hv.keep k15 λ_ _=>id)) ?_
 rintro _ h6 ⟨rfl,k6⟩
 simp only[zA5,zAe,zAd,zAL,zAR,zAt,zAl,zAa,if_true,if_false,zAb,zAc,decide_true,decide_false,reduceCtorEq,zBN,zEy,zEz,zEv,zEw,zEx,zBt,zA7,zA9]
 exact⟨by trivial,k15.trans k6⟩
end Go.Proofs.YticdfkoncnnmmaaGreatDoor
