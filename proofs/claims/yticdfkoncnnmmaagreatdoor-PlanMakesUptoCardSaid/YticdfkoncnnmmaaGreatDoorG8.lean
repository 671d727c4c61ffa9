import Derived.Test.YticdfkoncnnmmaaGreatDoorG6
import Derived.Test.YticdfkoncnnmmaaGreatDoorG1
import Derived.MapKept
import Derived.Maps.RangeRun
set_option linter.unusedSimpArgs false
set_option linter.unusedVariables false
set_option maxRecDepth 100000
namespace Go.Proofs.YticdfkoncnnmmaaGreatDoor
open Go.X Go.X.Diff
theorem zAix {c:Array Value}{o j n:Nat}{x:List Value}{w:Value}(hx:x.length=n)(hle:o+n<=c.size)(hj:j<n)(hc:(c.toList.drop o).take n=x):spl c o (x.set j w).toArray=c.setIfInBounds (o+j) w:=by
 apply Array.ext'
 rw[zB8]
 unfold spl
 show List.take o c.toList++x.set j w++List.drop (o+(x.set j w).toArray.size) c.toList=_
 have hsz:(x.set j w).toArray.size=n:=by simp[hx]
 rw[hsz]
 have e:c.toList=List.take o c.toList++(x++List.drop (o+n) c.toList):=by
  rw[<- hc,<- zCL,zBx,zBx]
 have hlt:(List.take o c.toList).length=o:=by rw[zA5];simp;omega
 conv=>rhs;rw[e]
 rw[zCQ _ _ (by rw[hlt];omega),hlt,zCM,List.set_append_left _ _ (by omega),zBe]
theorem _root_.Go.X.BufE.st {n:Nat}{F:zA3}{H:zAw}{v:Value}{xs:List (List Value)}(h:BufE n F H v xs){i j:Nat}{x:List Value}(hi:xs[i]? = some x)(hj:j<n){w:Value}(hw:w.oneCell'=true) :
  ∃ b o H',(∀ k,ixS n v (.int k i)=some (Ptr b o))/\Pt H b o x/\st1 H (Ptr b (o+j)) w=some H'/\BufE n F H' v (xs.set i (x.set j w))/\Keep F H H':=by
 obtain⟨hlt,hxe⟩:=zAS.1 hi
 have hxl:x.length=n:=h.1 x (by rw[<- hxe];exact zAH _)
 have hx1:∀ c∈x,c.oneCell'=true:=h.2.1 x (by rw[<- hxe];exact zAH _)
 have h1:∀ c∈x.set j w,c.oneCell'=true:=λc hc=>by
  rcases List.mem_or_eq_of_mem_set hc with hc|rfl
  ·exact hx1 c hc
  ·exact hw
 obtain⟨p,H',hip,hst,hb,hk⟩:=h.set hlt (x:=x.set j w) (by simp[hxl]) h1
 obtain⟨b,o,hib,hpt,_⟩:=h.sl.at hi
 have hpe:p=Ptr b o:=zAL ((hip .i64).symm.trans (hib .i64))
 subst hpe
 refine⟨b,o,H',hib,hpt,?_,hb,hk⟩
 obtain⟨c,T,f,hbb,hle,hc⟩:=hpt
 simp only[stN]at hst
 rw[if_pos (by simp[hxl])]at hst
 unfold stA at hst
 rw[hbb]at hst
 simp only at hst
 split at hst
 ·rename_i hcnd
  obtain⟨c1,c2,c3⟩:=hcnd
  simp only[st1,hbb]
  have hth:zUM f (o+j) 1=true:=by
   unfold zUM at c2 ⊢
   simp only[zCi,List.length_set,hxl,zB7,decide_eq_true_eq]at c2 ⊢
   omega
  rw[if_pos ⟨by omega,hth,hw⟩,<- hst]
  rw[hxl]at hc hle
  rw[zAix hxl hle hj hc]
 ·cases hst
theorem zXG {P:Program}{T:TypeId}{H:zAw}{k:zAm}(hk:k (.map (some H.size)) (H.push (.map #[] 0))):zQI P (Instr.makeMap T none) H k:=λw hw=>by
 subst hw
 refine⟨.map (some w.heap.size),{ w with heap:=w.heap.push (.map #[] 0) },?_,⟨rfl,rfl,rfl,zF5.push⟩,hk⟩
 simp[Instr.makeMap]
def zO0 (H:zAw)(q:Nat)(es:List (Value×Value)):Prop:=∃ (arr:Array MapEntry) (clock:Nat),H[q]? = some (.map arr clock)/\arr.toList.map (λe=>(e.key,e.val))=es/\(∀ e∈arr.toList,e.born<clock)/\(arr.toList.map (·.born)).Nodup
theorem zO0.keep {H H':zAw}{q:Nat}{es:List (Value×Value)}{S:zA3}(h:zO0 H q es)(k:Keep S H H')(hs:¬ S q):zO0 H' q es:=by
 obtain⟨a,c,h1,h2⟩:=h
 exact⟨a,c,k.at h1 hs,h2⟩
theorem zO0.new {H:zAw}:zO0 (H.push (.map #[] 0)) H.size []:=⟨#[],0,zCh,rfl,(λe h=>by cases h),List.nodup_nil⟩
open Go.MapKept
def zAlf (P:Program)(mty:TypeId)(d:TypeDesc)(z:Value):Prop:=∃ kt et,P.underlying mty=some (.map kt et)/\P.underlying kt=some d/\∀ w:World,(zeroValue et).run P w = .ok z w
def zAiy (ok:Bool)(v:Value)(b:Bool):Value:=if ok then .tuple #[v,.bool b] else v
theorem zVw {arr:Array MapEntry}{es:List (Value×Value)}(h:arr.toList.map (λe=>(e.key,e.val))=es){j:Nat}{e:MapEntry}(hj:arr.toList[j]? = some e):es[j]? = some (e.key,e.val):=by
 rw[<- h,zAr,hj];rfl
theorem zAak {P:Program}{mty:TypeId}{d:TypeDesc}{z key:Value}{ok:Bool}{H:zAw}{q:Nat}{es:List (Value×Value)}{k:zAm}(hT:zAlf P mty d z)(hm:zO0 H q es)(hks:∀ x∈es,IsKey d x.1)(hk:IsKey d key)
  (h1:∀ v,(key,v)∈es->k (zAiy ok v true) H) (h2:(∀ x∈es,x.1≠key)->k (zAiy ok z false) H):zQI P (Instr.lookup mty (.map (some q)) key ok) H k:=λw hw=>by
 subst hw
 obtain⟨kt,et,t1,t2,t3⟩:=hT
 obtain⟨arr,clock,hb,he,hbn,hnd⟩:=hm
 have hks':∀ x∈arr.toList,IsKey d x.key:=λx hx=>hks (x.key,x.val) (by rw[<- he];exact zAo.2 ⟨x,hx,rfl⟩)
 rcases findNow_spec hk arr.toList 0 hks' with ⟨f1,f2⟩|⟨j,e,f1,f2,f3⟩
 ·refine⟨zAiy ok z false,w,?_,zJK.rfl' _,h2 λx hx=>?_⟩
  ·cases ok<;>simp[Instr.lookup,run_underlying t1,Go.MapKept.run_getObj_map hb,run_checkKey t2 hk,run_findKey t2 f1,t3,Result.andThen,zAiy]
  ·rw[<- he]at hx
   obtain⟨y,hy,rfl⟩:=zAo.1 hx
   exact f2 y hy
 ·refine⟨zAiy ok e.val true,w,?_,zJK.rfl' _,h1 _ ?_⟩
  ·cases ok<;>simp[Instr.lookup,run_underlying t1,Go.MapKept.run_getObj_map hb,run_checkKey t2 hk,run_findKey t2 f1,Result.andThen,zAiy]
  ·have:=zVw he f2
   rw[f3]at this
   exact zAD this
theorem zUo {arr:Array MapEntry}{j:Nat}{key val:Value}:(arr.modify j λe=>{ e with key:=key,val:=val }).toList.map (·.born)=arr.toList.map (·.born):=by
 apply zCS
 intro i
 rw[zAr,zAr,Array.toList_modify,List.getElem?_modify]
 by_cases h:j=i
 ·subst h
  cases arr.toList[j]? <;> simp
 ·simp[h]
theorem zAal {P:Program}{mty:TypeId}{d:TypeDesc}{z key val:Value}{H:zAw}{q:Nat}{es:List (Value×Value)}{k:zAm}(hT:zAlf P mty d z)(hm:zO0 H q es)(hks:∀ x∈es,IsKey d x.1)(hk:IsKey d key)
  (h1:∀ j v H',es[j]? = some (key,v)->zO0 H' q (es.set j (key,val))->Keep (· = q) H H'->k undef H') (h2:∀ H',(∀ x∈es,x.1≠key)->zO0 H' q (es++[(key,val)])->Keep (· = q) H H'->k undef H'):Msu P (Instr.mapUpdate mty (.map (some q)) key val) H k:=λw hw=>by
 subst hw
 obtain⟨kt,et,t1,t2,t3⟩:=hT
 obtain⟨arr,clock,hb,he,hbn,hnd⟩:=hm
 have hks':∀ x∈arr.toList,IsKey d x.key:=λx hx=>hks (x.key,x.val) (by rw[<- he];exact zAo.2 ⟨x,hx,rfl⟩)
 have hsol:∀ o:Obj,(∀ ds,o ≠ .deferred ds)->zF5 w.heap (w.heap.setIfInBounds q o):=λo ho i ds hi=>by
  rw[zAC]
  split
  ·rename_i e;subst e;rw[hb]at hi;cases hi
  ·exact hi
 rcases findNow_spec hk arr.toList 0 hks' with ⟨f1,f2⟩|⟨j,e,f1,f2,f3⟩
 ·refine⟨{ w with heap:=w.heap.setIfInBounds q (.map (arr.push { key,val,born:=clock }) (clock+1)) },?_,⟨rfl,rfl,rfl,hsol _ (λ_ e=>by cases e)⟩,h2 _ (λx hx=>?_) ⟨_,_,(heap_set hb).1,?_,?_,?_⟩ (Keep.set rfl)⟩
  ·simp[Instr.mapUpdate,run_underlying t1,Go.MapKept.run_getObj_map hb,run_checkKey t2 hk,run_findKey t2 f1,Go.MapKept.run_setObj_map _ hb,Result.andThen]
  ·rw[<- he]at hx
   obtain⟨y,hy,rfl⟩:=zAo.1 hx
   exact f2 y hy
  ·rw[Array.toList_push,zAG,he];rfl
  ·intro x hx
   rw[Array.toList_push]at hx
   rcases zAs.1 hx with hx|hx
   ·have:=hbn x hx;omega
   ·rw[zAM.1 hx];show clock<clock+1;omega
  ·rw[Array.toList_push,zAG,zCH]
   refine⟨hnd,by simp,λa ha b hb' e=>?_⟩
   obtain⟨x,hx,rfl⟩:=zAo.1 ha
   have hb'':b=clock:=by simpa using hb'
   have:=hbn x hx;omega
 ·have hj:arr[j]? = some e:=by simpa using f2
  have hes:=zVw he f2
  rw[f3]at hes
  refine⟨{ w with heap:=w.heap.setIfInBounds q (.map (arr.modify j λe=>{ e with key:=key,val:=val }) clock) },?_,⟨rfl,rfl,rfl,hsol _ (λ_ e=>by cases e)⟩,h1 j e.val _ hes ⟨_,_,(heap_set hb).1,?_,?_,?_⟩ (Keep.set rfl)⟩
  ·simp[Instr.mapUpdate,run_underlying t1,Go.MapKept.run_getObj_map hb,run_checkKey t2 hk,run_findKey t2 f1,hj,f3,run_keyThatStays hk,Go.MapKept.run_setObj_map _ hb,Result.andThen]
  ·rw[<- he]
   apply zCS
   intro i
   rw[Array.toList_modify,zAr,List.getElem?_modify,List.getElem?_set]
   by_cases hij:j=i
   ·subst hij
    obtain⟨hlt,_⟩:=zAS.1 f2
    have hlt':j<arr.size:=by simpa using hlt
    simp[f2,hlt']
   ·rw[if_neg hij]
    simp[hij]
  ·intro x hx
   have:x.born∈arr.toList.map (·.born):=by rw[<- zUo (j:=j) (key:=key) (val:=val)];exact zAo.2 ⟨x,hx,rfl⟩
   obtain⟨y,hy,e⟩:=zAo.1 this
   rw[<- e];exact hbn y hy
  ·rw[zUo];exact hnd
def zAbi (H:zAw)(r q:Nat)(es:List (Value×Value))(vis:List Nat):Prop:=∃ (arr:Array MapEntry) (clock:Nat) (seen:Array Nat),H[q]? = some (.map arr clock)/\arr.toList.map (λe=>(e.key,e.val))=es/\(∀ e∈arr.toList,e.born<clock)/\(arr.toList.map (·.born)).Nodup /\
 H[r]? = some (.mapIter (some q) clock seen clock)/\r≠q/\vis.Nodup/\(∀ i∈vis,i<arr.size)/\(∀ i (h:i<arr.size),arr[i].born∈seen↔i∈vis)/\seen.toList=vis.map λi=>(arr[i]?.map (·.born)).getD 0
theorem zAbi.keep {H H':zAw}{r q:Nat}{es:List (Value×Value)}{vis:List Nat}{S:zA3}(h:zAbi H r q es vis)(k:Keep S H H')(hr:¬ S r)(hq:¬ S q):zAbi H' r q es vis:=by
 obtain⟨arr,clock,seen,h1,h2,h3,h4,h5,h6⟩:=h
 exact⟨arr,clock,seen,k.at h1 hq,h2,h3,h4,k.at h5 hr,h6⟩
theorem zAbi.map {H:zAw}{r q:Nat}{es:List (Value×Value)}{vis:List Nat}(h:zAbi H r q es vis):zO0 H q es:=by
 obtain⟨arr,clock,seen,h1,h2,h3,h4,_⟩:=h
 exact⟨arr,clock,h1,h2,h3,h4⟩
theorem zAfB {P:Program}{T k' e:TypeId}{H:zAw}{q:Nat}{es:List (Value×Value)}{k:zAm}(ht:P.underlying T=some (.map k' e))(hm:zO0 H q es)(hk:∀ H',zAbi H' H.size q es []->Keep zAK H H'->k (Ptr H.size 0) H'):zQI P (Instr.range T (.map (some q))) H k:=λw hw=>by
 subst hw
 obtain⟨arr,clock,hb,he,hbn,hnd⟩:=hm
 refine⟨_,_,run_range_map w T k' e q arr clock ht hb,⟨rfl,rfl,rfl,zF5.push⟩,hk _ ⟨arr,clock,#[],zTy hb,he,hbn,hnd,zCh,?_,List.nodup_nil,(λi h=>by cases h),(λi h=>by simp),rfl⟩ Keep.push⟩
 have:=lt_of hb;omega
theorem zAiz {P:Program}{T:TypeId}{H:zAw}{r q:Nat}{es:List (Value×Value)}{vis:List Nat}{k:zAm}(hI:zAbi H r q es vis)
  (h1:∀ (i:Nat) (x:Value×Value),es[i]? = some x->i∉vis->∀ H',zAbi H' r q es (vis++[i])->Keep (· = r) H H'->k (.tuple #[.bool true,x.1,x.2]) H') (h2:(∀ i,i<es.length->i∈vis)->k (.tuple #[.bool false]) H) :
  zQI P (Instr.next (Ptr r 0) false T) H k:=λw hw=>by
 subst hw
 obtain⟨arr,clock,seen,hb,he,hbn,hnd,hr,hrq,hv,hvl,hs,hsv⟩:=hI
 have hlen:es.length=arr.size:=by rw[<- he];simp
 rcases run_next_at w T r q clock clock seen arr clock hr hb hbn (zAi _) with ⟨h0,hrun⟩|⟨e,hel,w1,hw1,hrun⟩
 ·refine⟨_,w,hrun,zJK.rfl' _,h2 λi hi=>?_⟩
  have hi':i<arr.size:=by omega
  refine(hs i hi').1 ?_
  have:¬ arr[i]∈leftOf arr seen:=λhm=>by
   have:=Array.size_pos_of_mem hm;omega
  unfold leftOf at this
  rw[Array.mem_filter]at this
  simpa using this
 ·have hem:e∈leftOf arr seen:=by simpa using hel
  unfold leftOf at hem
  rw[Array.mem_filter]at hem
  obtain⟨hea,hns⟩:=hem
  obtain⟨i,hi,rfl⟩:=Array.getElem_of_mem hea
  have hnv:i∉vis:=λh=>by
   have:=(hs i hi).2 h
   simp[this]at hns
  have hh:(w1.heap:zAw)=w.heap:=by rcases hw1 with rfl|rfl<;>rfl
  have hsame:zJK w w1:=by
   rcases hw1 with rfl|rfl
   ·exact zJK.rfl' _
   ·exact⟨rfl,rfl,rfl,zF5.rfl'⟩
  have hset:(ChangeMaps.setBlock w1 r (.mapIter (some q) clock (seen.push arr[i].born) clock)).heap=(w.heap:zAw).setIfInBounds r (.mapIter (some q) clock (seen.push arr[i].born) clock):=by
   show(w1.heap:zAw).setIfInBounds r _=_
   rw[hh]
  refine⟨_,_,hrun,⟨hsame.os,hsame.tape,hsame.output,?_⟩,?_⟩
  ·rw[hset]
   intro j ds hj
   rw[zAC]
   split
   ·rename_i e;subst e;rw[hr]at hj;cases hj
   ·exact hj
  ·rw[hset]
   refine h1 i (arr[i].key,arr[i].val) ?_ hnv _ ⟨arr,clock,seen.push arr[i].born,?_,he,hbn,hnd,zBp hr,hrq,?_,?_,?_,by rw[Array.toList_push,hsv,zAG];simp[hi]⟩ (Keep.set rfl)
   ·rw[<- he,zAr]
    simp[hi]
   ·exact zAcy hb hrq
   ·rw[zCH]
    exact⟨hv,by simp,λa ha b hb e=>by simp at hb;subst hb;subst e;exact hnv ha⟩
   ·intro j hj
    rcases zAs.1 hj with hj|hj
    ·exact hvl j hj
    ·rw[zAM.1 hj];exact hi
   ·intro j hj
    rw[Array.mem_push,hs j hj,zAs,zAM]
    refine or_congr Iff.rfl ⟨λe=>?_,λe=>by subst e;rfl⟩
    have hp:=zBN.1 (zBG.1 (zB4.1 hnd))
    have hjl:j<arr.toList.length:=by simpa using hj
    have hil:i<arr.toList.length:=by simpa using hi
    rcases Nat.lt_trichotomy j i with h|h|h
    ·exact absurd e (by simpa using hp j i hjl hil h)
    ·exact h
    ·exact absurd e.symm (by simpa using hp i j hil hjl h)
theorem zAfC {P:Program}{H:zAw}{r q i:Nat}{es:List (Value×Value)}{vis:List Nat}{x:Value×Value}{k:zAm}(hI:zAbi H r q es (vis++[i]))(hx:es[i]? = some x)(hk:k (.tuple #[x.1,x.2]) H):zQI P (Instr.entry (Ptr r 0)) H k:=λw hw=>by
 subst hw
 obtain⟨arr,clock,seen,hb,he,hbn,hnd,hr,hrq,hv,hvl,hs,hsv⟩:=hI
 have hi:i<arr.size:=hvl i (by simp)
 have hseen:seen=(vis.map λi=>(arr[i]?.map (·.born)).getD 0).toArray.push arr[i].born:=by
  apply Array.ext'
  rw[hsv,zAG,Array.toList_push]
  simp[hi]
 rw[hseen]at hr
 have hxe:x=(arr[i].key,arr[i].val):=by
  rw[<- he,zAr]at hx
  simp[hi]at hx
  exact hx.symm
 subst hxe
 exact⟨_,w,run_entry_at w r q clock _ arr clock arr[i] hr hb (by simp) hnd,zJK.rfl' w,hk⟩
def zOB (a b:List UInt8):Bool:=decide (a=b) || (decide ((b++[47]).length<=a.length)&&decide (a.take (b++[47]).length=b++[47]))
theorem zAde {H:zAw}{a b:List UInt8}(hb:b.length<=1048576):zAz prg zI2 [str a,str b] H λu H'=>u = .bool (zOB a b)/\Keep zAK H H':=by
 apply zOQ
 unfold zOr
 have e:=λq=>zDN (q:=q) (a:=a) (b:=b)
 have s:(Value.string ⟨#[47]⟩)=str [47]:=rfl
 rw[e,zAa,s]
 unfold zOB
 cases h:decide (a=b)
 ·simp only[zBW,zAO,if_true,zCz]
  rw[zUf (by simp;omega),zAa]
  refine zAI (R:=λu H'=>u = .bool (decide ((b++[47]).length<=a.length)&&decide (a.take (b++[47]).length=b++[47]))/\H=H') ?_ ?_
  ·apply zIn
   unfold zIB
   refine zAI zUg ?_
   rintro _ _ ⟨rfl,rfl⟩
   exact⟨rfl,rfl⟩
  ·rintro _ _ ⟨rfl,rfl⟩
   simp only[zAv,zAb,if_false,zAa]
   exact⟨by trivial,Keep.refl⟩
 ·simp only[zBW,zAO,zAc,if_false,zAv,if_true,zAa,Bool.true_or]
  exact⟨by trivial,Keep.refl⟩
def fnL:List UInt8:=[97,98,99,100,101,102,103,104,105,106,107,108,109,110,111,112,113,114,115,116,117,118,119,120,121,122,48,49,50,51,52,53,54,55,56,57,46,95,45]
def zNd (w:List UInt8):Bool:=!decide (w=[]) && !decide (w=[46]) && !decide (w=[46,46])&&decide (zOv fnL (zN5 fnL w)=[])
def zAbP (l:List UInt8):Bool:=!decide (l=[])&&decide (l.length<=64)&&(zDX 47 l).all zNd
structure FnI (H:zAw)(l:List UInt8)(j:Nat)(h:zAw):Prop where
 a:At h H.size [.bool false]
 ok:((zDX 47 l).take j).all zNd=true
 k:Keep zAK H h
theorem FnI.keep {H:zAw}{l:List UInt8}{j:Nat}{h h':zAw}{S:zA3}(p:FnI H l j h)(k:Keep S h h')(hs:∀ b,S b->H.size<b):FnI H l j h' :=
 ⟨p.a.keep k λhS=>by have:=hs _ hS;omega,p.ok,p.k.fresh k λb hb=>by have:=hs b hb;omega⟩
theorem zAiA:zBE prg zXe=some [Value.bool false].toArray:=by kernel_rfl
set_option maxHeartbeats 2000000 in
theorem zY0 {H:zAw}{l:List UInt8}:zAz prg zPL [str l] H λu H'=>u = .bool (zAbP l)/\Keep zAK H H':=by
 apply zRj
 unfold zRY
 simp only[zAiA,zBb]
 generalize hH1:H.push (.cells [Value.bool false].toArray zXe (0,0))=H1
 have k1:Keep zAK H H1:=by rw[<- hH1];exact Keep.push
 have a1:At H1 H.size [.bool false]:=by rw[<- hH1];exact At.push
 have s1:H1.size=H.size+1:=by rw[<- hH1];simp
 have s0:(Value.string ⟨#[]⟩)=str []:=rfl
 have s47:(Value.string ⟨#[47]⟩)=str [47]:=rfl
 have s46:(Value.string ⟨#[46]⟩)=str [46]:=rfl
 have s446:(Value.string ⟨#[46,46]⟩)=str [46,46]:=rfl
 have sfn:(Value.string ⟨#[97,98,99,100,101,102,103,104,105,106,107,108,109,110,111,112,113,114,115,116,117,118,119,120,121,122,48,49,50,51,52,53,54,55,56,57,46,95,45]⟩)=str fnL:=rfl
 have e0:=λq=>zDN (q:=q) (a:=l) (b:=[])
 have e64:zAB .no .gtr (.int .i64 (l.length:Nat)) (.int .i64 64)=some (.bool (decide (l.length > 64))):=zAkb
 rw[s0,s47,s46,s446,sfn,e0,zAa]
 have no:∀ h,At h H.size [.bool false]->Keep zAK H h->zAbP l=false->Mwr (st1 h (Ptr H.size 0) (.bool false)) λh4=>Mcl H.size h4 λh5=>Mpu (ld1 h5 (Ptr H.size 0)) λr6=>r6 = .bool (zAbP l)/\Keep zAK H h5:=λh a kh hf=>by
  obtain⟨h4,st4,a4,k4⟩:=a.st1 (i:=0) (v := .bool false) (by simp) rfl
  rw[st4,zAV]
  refine zWk λh5 hc=>?_
  have d:ld1 h5 (Ptr H.size 0)=some (.bool false):=(a4.closed hc).ld rfl
  rw[d,zAa]
  exact⟨by rw[hf],zH7 (kh.fresh k4 λb hb=>by omega) hc⟩
 cases hnil:decide (l=[])
 rotate_left
 ·simp only[zBW,zAO,zAc,if_false,zAv,if_true,zAa,zAl]
  exact no H1 a1 k1 (by unfold zAbP;rw[hnil];rfl)
 refine zBW.2 ?_
 rw[zAO,if_pos rfl,zFb,zAa,e64,zAa]
 cases h64:decide (l.length > 64)
 rotate_left
 ·simp only[zAv,if_true,zAb,if_false,zAa,zAl]
  exact no H1 a1 k1 (by unfold zAbP;rw[hnil,decide_eq_false (show ¬ l.length<=64 by have:=of_decide_eq_true h64;omega)];rfl)
 have hl:l.length<=64:=by have:=of_decide_eq_false h64;omega
 have hfo:zAbP l=(zDX 47 l).all zNd:=by unfold zAbP;rw[hnil,decide_eq_true hl];rfl
 rw[zAv,if_neg (by decide),zAa,zAl,if_neg (by decide)]
 refine zAI zVr ?_
 rintro _ h5 ⟨qs,qp,qn,rfl,hst,hq,k5⟩
 have g5:=k5.1
 have k05:=k1.trans k5
 have inv0:FnI H l 0 h5:=⟨a1.keep k5 id,rfl,k05⟩
 have hxl:((zDX 47 l).map λx=>[str x]).length=(zDX 47 l).length:=by simp
 refine range_i (xs:=(zDX 47 l).map λx=>[str x]) (S:=λb=>b=qs\/b=qp\/b=qn) (W:=λb=>b=H.size\/h5.size+2<=b) (St:=zRo qs qp qn l 47)
  (zVq (by omega)) (λo o'=>?_) k05.1
  (FnI H l) (λc h=>c = .ret/\(zDX 47 l).all zNd=false/\At h H.size [.bool false]/\Keep zAK H h) inv0
  (λi h h' hI k=>hI.keep k λb hb=>?_) (λc h h' hX k=>?_) (λb hb=>(hq b hb).2) (λb hb=>?_) ?_ ?_ ?_
 ·have kp:Keep zAK h5 ((h5.push o).push o'):=Keep.push.trans Keep.push
  exact⟨hst.s.keep kp id,hst.p.keep kp id,hst.n.keep kp id,hst.ne⟩
 ·rcases hb with hb|rfl|rfl
  ·have:=hq b hb;omega
  ·omega
  ·omega
 ·obtain⟨rfl,x0,x1,x4⟩:=hX
  have nb:∀ b,(b=qs\/b=qp\/b=qn)\/b=h5.size\/b=h5.size+1->H.size<b:=λb hb=>by
   rcases hb with hb|rfl|rfl
   ·have:=hq b hb;omega
   ·omega
   ·omega
  exact⟨rfl,x0,x1.keep k λhb=>by have:=nb _ hb;omega,x4.fresh k λb hb=>by have:=nb b hb;omega⟩
 ·refine⟨by omega,by omega,λhbq=>?_⟩
  have:=hq b hbq;omega
 ·intro j x h r hx hI hloop hready K hN hEx
  obtain⟨y,hy,rfl⟩:∃ y,(zDX 47 l)[j]? = some y/\x=[str y]:=by
   rw[zAr]at hx
   obtain⟨y,h1,h2⟩:=zBF.1 hx
   exact⟨y,h1,h2.symm⟩
  refine⟨rfl,r,hloop,hready,?_⟩
  have hsz:=lt_of hloop
  generalize hhb:h.setIfInBounds (h5.size+1) (.loop { r with state := .busy })=hb at *
  have kb:Keep (· = h5.size+1) h hb:=by rw[<- hhb];exact Keep.set rfl
  have gb:=kb.1
  have hI:=hI.keep kb λb hb=>by omega
  have hmem:y∈zDX 47 l:=zAD hy
  have hyl:=zOx hmem
  have htk:(zDX 47 l).take (j+1)=(zDX 47 l).take j++[y]:=by rw[zAF,hy];rfl
  have bad:∀ h',Keep zAK hb h'->zNd y=false->Mwr (st1 h' (Ptr H.size 0) (.bool false)) λh21=>K (some Code.ret) h21:=λh' k' hf=>by
   obtain⟨h12,st12,a12,k12⟩:=(hI.a.keep k' id).st1 (i:=0) (v := .bool false) (by simp) rfl
   rw[st12,zAV]
   have kW:Keep (λb=>b=H.size\/h5.size+2<=b) hb h12:=(k'.mono λ_ _ h=>h.elim).trans (k12.mono λb _ h => .inl h)
   exact hEx _ h12 kW ⟨rfl,zCF.2 ⟨y,hmem,by simp[hf]⟩,a12,hI.k.fresh kW λb hb'=>by omega⟩
  have good:∀ h',Keep zAK hb h'->zNd y=true->K none h':=λh' k' hf=>by
   refine hN h' (k'.mono λ_ _ h=>h.elim) ⟨hI.a.keep k' id,?_,hI.k.trans k'⟩
   rw[htk,zC3,hI.ok];simp[hf]
  have q0:=λq=>zDN (q:=q) (a:=y) (b:=[])
  have q1:=λq=>zDN (q:=q) (a:=y) (b:=[46])
  have q2:=λq=>zDN (q:=q) (a:=y) (b:=[46,46])
  show Mpu (zAB .no .eql (str y) (str [])) _
  rw[q0,zAa]
  cases p0:decide (y=[])
  rotate_left
  ·simp only[zBW,zAO,zAc,if_false,zAv,if_true,zAa,zAl]
   exact bad hb Keep.refl (by unfold zNd;rw[p0];rfl)
  refine zBW.2 ?_
  rw[zAO,if_pos rfl]
  show Mpu (zAB .no .eql (str y) (str [46])) _
  rw[q1,zAa]
  cases p1:decide (y=[46])
  rotate_left
  ·simp only[zBW,zAO,zAc,zAb,if_false,zAv,if_true,zAa,zAl]
   exact bad hb Keep.refl (by unfold zNd;rw[p0,p1];rfl)
  rw[zAv,if_neg (by decide),zAa]
  refine zBW.2 ?_
  rw[zAO,if_pos rfl]
  show Mpu (zAB .no .eql (str y) (str [46,46])) _
  rw[q2,zAa]
  cases p2:decide (y=[46,46])
  rotate_left
  ·simp only[zBW,zAO,zAc,zAb,if_false,zAv,if_true,zAa,zAl]
   exact bad hb Keep.refl (by unfold zNd;rw[p0,p1,p2];rfl)
  rw[zAv,if_neg (by decide),zAa]
  refine zBW.2 ?_
  rw[zAO,if_pos rfl]
  show zAY prg zHj [str y,str fnL] hb _
  refine zAI (zAcI (cs:=fnL) (by decide) (by decide) (by decide) (by omega)) ?_
  rintro _ h19 ⟨rfl,k19⟩
  have q3:zAB .no .neq (str (zOv fnL (zN5 fnL y))) (str [])=some (.bool (!decide (zOv fnL (zN5 fnL y)=[]))):=zSK
  rw[q3,zAa]
  show Mpu (zBw (.bool false) (.bool true) (.bool (!decide (zOv fnL (zN5 fnL y)=[])))) _
  rw[zAv,if_neg (by decide),zAa,zAl]
  have hpo:zNd y=decide (zOv fnL (zN5 fnL y)=[]):=by unfold zNd;rw[p0,p1,p2];rfl
  cases p3:decide (zOv fnL (zN5 fnL y)=[])
  ·rw[if_pos (show(!false)=true from rfl)]
   exact bad h19 k19 (by rw[hpo,p3])
  ·rw[if_neg (show ¬ (!true)=true by decide)]
   exact good h19 k19 (by rw[hpo,p3])
 ·intro h hsz hI
  refine .inl ⟨rfl,?_⟩
  rw[hxl]at hI
  obtain⟨h22,st22,a22,k22⟩:=hI.a.st1 (i:=0) (v := .bool true) (by simp) rfl
  have hok:=hI.ok
  rw[zAp (zAi _)]at hok
  show Mwr (st1 h (Ptr H.size 0) (.bool true)) _
  rw[st22,zAV]
  refine zWk λh23 hc=>?_
  have d:ld1 h23 (Ptr H.size 0)=some (.bool true):=(a22.closed hc).ld rfl
  show Mpu (ld1 h23 (Ptr H.size 0)) _
  rw[d,zAa]
  exact⟨by rw[hfo,hok],zH7 (hI.k.fresh k22 λb hb=>by omega) hc⟩
 ·rintro c h hsz ⟨rfl,x0,x1,x4⟩
  refine .inr ⟨rfl,?_⟩
  refine zWk λh25 hc=>?_
  have d:ld1 h25 (Ptr H.size 0)=some (.bool false):=(x1.closed hc).ld rfl
  show Mpu (ld1 h25 (Ptr H.size 0)) _
  rw[d,zAa]
  exact⟨by rw[hfo,x0],zH7 x4 hc⟩
theorem zOC {n m:Nat}:zAB .no .lss (.int .i64 (n:Nat)) (.int .i64 (m:Nat))=some (.bool (decide (n<m))):=by
 rw[zAJ];simp only[zC5];congr 2;rw[decide_eq_decide];omega
theorem zAbQ {n m:Nat}:zAB .no .gtr (.int .i64 (n:Nat)) (.int .i64 (m:Nat))=some (.bool (decide (n > m))):=by
 rw[zAJ];simp only[zC5];congr 2;rw[decide_eq_decide];omega
theorem zAjp {n m:Nat}:zAB .no .eql (.int .i64 (n:Nat)) (.int .i64 (m:Nat))=some (.bool (decide (n=m))):=by
 rw[zAJ];simp only[zC5];congr 2;rw[zAW];simp<;>omega
theorem zAmJ {n m:Nat}:zAB .no .neq (.int .i64 (n:Nat)) (.int .i64 (m:Nat))=some (.bool (!decide (n=m))):=by
 rw[zAJ];simp only[zC5];congr 2;rw[zAW];simp<;>omega
theorem ltI {x y:Int}:zAB .no .lss (.int .i64 x) (.int .i64 y)=some (.bool (decide (x<y))):=by rw[zAJ];rfl
theorem gtI {x y:Int}:zAB .no .gtr (.int .i64 x) (.int .i64 y)=some (.bool (decide (x > y))):=by rw[zAJ];rfl
theorem geI {x y:Int}:zAB .no .geq (.int .i64 x) (.int .i64 y)=some (.bool (decide (x>=y))):=by rw[zAJ];rfl
theorem eqI {x y:Int}:zAB .no .eql (.int .i64 x) (.int .i64 y)=some (.bool (decide (x=y))):=by
 rw[zAJ];simp only[zC5];congr 2
theorem neI {x y:Int}:zAB .no .neq (.int .i64 x) (.int .i64 y)=some (.bool (!decide (x=y))):=by
 rw[zAJ];simp only[zC5];congr 2
theorem zSb {p:Nat->Bool}{n i:Nat}(hi:i<n)(h:p i=false):(List.range n).all p=false:=zCF.2 ⟨i,zBQ.2 hi,by simp[h]⟩
theorem zQD {p:Nat->Bool}{i:Nat}(h:(List.range i).all p=true)(hb:p i=true):(List.range (i+1)).all p=true:=by
 rw[List.range_succ,zC3,h];simp[hb]
theorem zAbj {H:zAw}{d:zHu}(hd:d.wf):zAz prg zEu [.agg (zEf d).toArray] H λu H'=>u=str d.name/\Keep zAK H H':=by
 apply zM5
 unfold zLy
 simp only[zB3,zBb]
 have a:At (H.push (.cells (zEf d).toArray zBq (0,0))) H.size (zEf d):=At.push
 have d0:ld1 (H.push (.cells (zEf d).toArray zBq (0,0))) (Ptr H.size 0)=some (str d.name):=a.ld rfl
 rw[zBi,zAa,zAu,d0,zAa]
 exact⟨rfl,Keep.push⟩
theorem zAbk {P:zA3}{H:zAw}{v:Value}{l:List zHu}(hv:SlE 34 P H v (l.map zEf))(hw:∀ d∈l,d.wf)(hl:l.length<=1099511627776) :
  zAz prg zEM [v,.func (.func zEu) #[] #[]] H λu H'=>u = .bool (zR6 (l.map (·.name)))/\Keep zAK H H':=by
 apply zId
 unfold zGr
 have hlen:=hv.len
 rw[zAd]at hlen
 have hln:(l.map (·.name)).length=l.length:=by simp
 have hcall:∀ (d:zHu) (h:zAw) (k:zAm),d.wf->(∀ h',Keep zAK h h'->k (str d.name) h')->zDO prg (.func (.func zEu) #[] #[]) [.agg (zEf d).toArray] h k:=λd h k hd hk =>
  .inl ⟨zEu,#[],#[],rfl,by kernel_rfl,zAz.mono (R:=λu H'=>u=str d.name/\Keep zAK h H') (zAbj hd) λu h' hR=>by obtain⟨rfl,k'⟩:=hR;exact hk h' k'⟩
 refine zNB (λ_ h=>zR6 (l.map (·.name))=true/\Keep zAK H h) (λk hk=>?_) ?_
 ·refine zKn (λu h=>∃ i:Nat,1<=i/\u = .int .i64 (i:Nat)/\(List.range (min i l.length)).all (zPj (l.map (·.name)))=true/\Keep zAK H h) (λu _=>match u with | .int _ t=>l.length-t.toNat|_=>0) ⟨1,zAi _,rfl,?_,Keep.refl⟩ ?_
  ·by_cases h0:l.length=0
   ·rw[h0];rfl
   ·rw[zBO (by omega)];rfl
  rintro _ h ⟨i,hi,rfl,hall,kh⟩ k2 hk2
  rw[hlen,zAa,zOC,zAa,zAl]
  by_cases hlt:i<l.length
  ·rw[if_pos (by simpa using hlt)]
   have hg:l[i]? = some l[i]:=zAj hlt
   have hg':l[i-1]? = some (l[i-1]'(by omega)):=zAj (by omega)
   have hvh:=hv.keep kh λ_ _=>id
   obtain⟨b,o,hix,hpt,_⟩:=hvh.at (i:=i) (x:=zEf l[i]) (by rw[zAr,hg];rfl)
   obtain⟨b',o',hix',hpt',_⟩:=hvh.at (i:=i-1) (x:=zEf (l[i-1]'(by omega))) (by rw[zAr,hg'];rfl)
   have hwd:=hw _ (zAH hlt)
   have hwd':=hw _ (zAH (show i-1<l.length by omega))
   have hra:zPj (l.map (·.name)) i=zXo (l[i-1]'(by omega)).name l[i].name:=by
    have h0:((l.map (·.name)).getD (i-1) [])=(l[i-1]'(by omega)).name:=by simp[List.getD,hg']
    have h1:((l.map (·.name)).getD i [])=l[i].name:=by simp[List.getD,hg]
    unfold zPj
    rw[h0,h1,decide_eq_false (by omega)];rfl
   generalize l[i]=d at *
   generalize (l[i-1]'(by omega))=d' at *
   have e2:zAB .no .sub (.int .i64 (i:Nat)) (.int .i64 1)=some (.int .i64 ((i-1:Nat):Int)):=by
    rw[zAJ];simp only[zC5];rw[zCc (by omega) (by omega)];congr 2;omega
   rw[e2,zAa,hix' .i64,zAa,hpt'.agg (zDP hwd'),zAa,hix .i64,zAa,hpt.agg (zDP hwd),zAa]
   refine hcall d' h _ hwd' λh5 k5=>?_
   refine⟨(hpt.keep k5 id).agg (zDP hwd),?_⟩
   refine hcall d h5 _ hwd λh6 k6=>?_
   have hge:zAB .no .geq (str d'.name) (str d.name)=some (.bool (!zXo d'.name d.name)):=by rw[zGu];exact zV8
   rw[hge,zAa,zAl]
   have kk:=kh.trans (k5.trans k6)
   cases hb:zXo d'.name d.name
   ·rw[if_pos (show(!false)=true from rfl)]
    exact⟨by rw[zAae (i:=i) (by rw[hln];exact hlt) (by rw[hra,hb])],kk⟩
   ·rw[if_neg (by decide),zB0 (by omega),zAa]
    refine hk2 _ _ ⟨i+1,by omega,rfl,?_,kk⟩ (by show l.length-(i+1)<l.length-i;omega)
    rw[zBO (by omega)]at hall ⊢
    exact zXw hall (by rw[hra,hb])
  ·rw[if_neg (by simpa using hlt)]
   refine hk _ _ ⟨?_,kh⟩
   rw[Nat.min_eq_right (by omega)]at hall
   unfold zR6
   rw[hln];exact hall
 ·rintro _ h ⟨h1,h2⟩
  exact⟨by rw[h1],h2⟩
def zXH:zHu:=⟨[],[],0⟩
def zSQ (l:List zHu)(i j:Nat):Bool:=decide (i=j) || !zOB (l.getD j zXH).name (l.getD i zXH).name
def zKj (l:List zHu)(i:Nat):Bool:=zAbP (l.getD i zXH).name && !zOB (l.getD i zXH).name [118,97,114] && !decide ((l.getD i zXH).size<0) && !decide ((l.getD i zXH).size > 1048576)&&(List.range l.length).all (zSQ l i)
def zQd (l:List zHu):Bool:=decide (l.length<=64)&&zR6 (l.map (·.name))&&(List.range l.length).all (zKj l)
theorem zUp {α:Type}{l:List α}{i:Nat}{x z:α}(h:l[i]? = some x):l.getD i z=x:=by simp[List.getD,h]
theorem zAgS {l:List UInt8}(h:zAbP l=true):l.length<=64:=by
 unfold zAbP at h
 simp only[zAk,decide_eq_true_eq]at h
 exact h.1.2
theorem zY1:zBE prg zBq=some (zEf ⟨[],List.replicate 32 0,0⟩).toArray:=by kernel_rfl
theorem zAfD:(⟨[],List.replicate 32 0,0⟩:zHu).wf:=⟨by simp,by simp,by simp⟩
set_option maxHeartbeats 4000000 in
theorem zAfE {P:zA3}{H:zAw}{m:Man}{vd vc vf:Value}(hv:zMx P H m vd vc vf) :
  zAz prg zGk [.agg (zGM m vd vc vf).toArray] H λu H'=>u = .bool (zQd m.files)/\Keep zAK H H':=by
 apply zKs
 unfold zIm
 simp only[zB3,zBb,zBi,zAh,zAu,zAa]
 generalize hH1:H.push (.cells (zGM m vd vc vf).toArray zAg (0,0))=H1
 have k1:Keep zAK H H1:=by rw[<- hH1];exact Keep.push
 have a1:At H1 H.size (zGM m vd vc vf):=by rw[<- hH1];exact At.push
 have w:=hv.wf
 have d7:∀ h,Keep zAK H1 h->ld1 h (Ptr H.size 7)=some vf:=λh k=>(zG6 (a1.keep k id) w).2.2
 have hf:=hv.f
 generalize hL:m.files=l at *
 have hlen:=hf.len
 rw[zAd]at hlen
 have hwl:∀ f∈l,f.wf:=λf hf=>w.files f (by rw[hL];exact hf)
 have e64:zAB .no .gtr (.int .i64 (l.length:Nat)) (.int .i64 64)=some (.bool (decide (l.length > 64))):=zAbQ (m:=64)
 rw[d7 _ Keep.refl,zAa,hlen,zAa,e64,zAa]
 cases h64:decide (l.length > 64)
 rotate_left
 ·simp only[zBW,zAO,zAc,if_false,zAv,if_true,zAa,zAl]
  exact⟨by unfold zQd;rw[decide_eq_false (show ¬ l.length<=64 by have:=of_decide_eq_true h64;omega)];rfl,k1⟩
 have hl:l.length<=64:=by have:=of_decide_eq_false h64;omega
 refine zBW.2 ?_
 rw[zAO,if_pos rfl,zAa]
 refine zAI (zAbk (hf.keep k1 λ_ _=>id) hwl (by omega)) ?_
 rintro _ h3 ⟨rfl,k3⟩
 have k13:=k1.trans k3
 have hfo:zQd l=(zR6 (l.map (·.name))&&(List.range l.length).all (zKj l)):=by unfold zQd;rw[decide_eq_true hl];rfl
 rw[zBa,zAa]
 cases hr:zR6 (l.map (·.name))
 ·simp only[zAe,zAv,zAb,if_false,if_true,zAa,zAl]
  exact⟨by rw[hfo,hr];rfl,k13⟩
 rw[hr,zBf]at hfo
 rw[zAf,zAv,if_neg (by decide),zAa,zAl,if_neg (by decide)]
 refine zNB (λ_ h=>(List.range l.length).all (zKj l)=true/\Keep zAK H h) (λk hk=>?_) ?_
 rotate_left
 ·rintro _ h ⟨h1,h2⟩
  exact⟨by rw[hfo,h1],h2⟩
 rw[d7 _ k3,zAa,hlen,zAa]
 refine zKn (λu h=>∃ i:Nat,i<=l.length/\u = .int .i64 (i:Nat)/\(List.range i).all (zKj l)=true/\Keep zAK h3 h) (λu _=>match u with | .int _ t=>l.length-t.toNat|_=>0) ⟨0,zAA _,rfl,rfl,Keep.refl⟩ ?_
 rintro _ h ⟨i,hi,rfl,hall,kh⟩ kk hkk
 rw[zOC,zAa,zAl]
 have k0h:=k13.trans kh
 by_cases hlt:i<l.length
 rotate_left
 ·rw[if_neg (by simpa using hlt)]
  obtain rfl:i=l.length:=by omega
  exact hk _ _ ⟨hall,k0h⟩
 rw[if_pos (by simpa using hlt)]
 have hg:l[i]? = some l[i]:=zAj hlt
 have hgd:=zUp (z:=zXH) hg
 have hfoi:zKj l i=(zAbP l[i].name && !zOB l[i].name [118,97,114] && !decide (l[i].size<0) && !decide (l[i].size > 1048576)&&(List.range l.length).all (zSQ l i)):=by unfold zKj;rw[hgd]
 have hap:∀ j,zSQ l i j=(decide (i=j) || !zOB (l.getD j zXH).name l[i].name):=λj=>by unfold zSQ;rw[hgd]
 have hwf:=hwl _ (zAH hlt)
 generalize l[i]=f at *
 refine J4_i (λ_ _ _ _ h'=>zKj l i=true/\Keep zAK h3 h') (λk9 hk9=>?_) ?_
 rotate_left
 ·rintro _ _ _ _ h' ⟨h1,h2⟩
  rw[zB0 (by omega),zAa]
  exact hkk _ _ ⟨i+1,by omega,rfl,zQD hall h1,h2⟩ (by show l.length-(i+1)<l.length-i;omega)
 obtain⟨b,o,hix,hpt,_⟩:=(hf.keep k0h λ_ _=>id).at (i:=i) (x:=zEf f) (by rw[zAr,hg];rfl)
 rw[hix .i64,zAa,hpt.agg (zDP hwf),zAa]
 simp only[zY1,zBb]
 generalize hH11:h.push (.cells (zEf ⟨[],List.replicate 32 0,0⟩).toArray zBq (0,0))=h11
 have k11:Keep zAK h h11:=by rw[<- hH11];exact Keep.push
 have a11:At h11 h.size (zEf ⟨[],List.replicate 32 0,0⟩):=by rw[<- hH11];exact At.push
 obtain⟨h12,st12,a12,k12⟩:=a11.st (n:=34) (ds:=zEf f) (zDP zAfD) (zDP hwf) zNc
 have gh:=kh.1
 have k312:Keep zAK h3 h12:=(kh.trans k11).fresh k12 λb hb=>by omega
 have dn:∀ h',Keep zAK h12 h'->ld1 h' (Ptr h.size 0)=some (str f.name):=λh' k'=>(a12.keep k' id).ld rfl
 have dsz:∀ h',Keep zAK h12 h'->ld1 h' (Ptr h.size 33)=some (.int .i64 f.size):=λh' k'=>(a12.keep k' id).ld (by
  show(zEf f)[33]? = _
  unfold zEf
  rw[zC1,zBc (by simp[hwf.sum])]
  simp[hwf.sum])
 have svar:(Value.string ⟨#[118,97,114]⟩)=str [118,97,114]:=rfl
 have bad:∀ h',Keep zAK h12 h'->zKj l i=false->(Value.bool false = .bool (zQd l)/\Keep zAK H h'):=λh' k' hb=>⟨by rw[hfo,zSb hlt hb],(k13.trans k312).trans k'⟩
 rw[st12,zAV]
 simp only[zBi,zAh,zAu,zAa]
 rw[dn _ Keep.refl,zAa]
 refine zAI zY0 ?_
 rintro _ h13 ⟨rfl,k13'⟩
 rw[zBa,zAa]
 cases q1:zAbP f.name
 ·simp only[zAe,zBW,zAO,zAU,zAc,if_false,zAv,if_true,zAa,zAl]
  exact bad _ k13' (by rw[hfoi,q1];rfl)
 rw[zAf]
 refine zBW.2 ?_
 rw[zAO,if_pos rfl,dn _ k13',zAa,svar]
 refine zAI (zAde (by simp)) ?_
 rintro _ h15 ⟨rfl,k15⟩
 have k1215:=k13'.trans k15
 rw[zAv,if_neg (by decide),zAa]
 cases q2:zOB f.name [118,97,114]
 rotate_left
 ·simp only[zBW,zAO,zAU,zAc,if_false,zAv,if_true,zAa,zAl]
  exact bad _ k1215 (by rw[hfoi,q1,q2];rfl)
 refine zBW.2 ?_
 rw[zAO,if_pos rfl,dsz _ k1215,zAa,ltI,zAa]
 show Mpu (zBw (.bool false) (.bool true) _) _
 rw[zAv,if_neg (by decide),zAa]
 cases q3:decide (f.size<0)
 rotate_left
 ·simp only[zBW,zAO,zAU,zAc,if_false,zAv,if_true,zAa,zAl]
  exact bad _ k1215 (by rw[hfoi,q1,q2,q3];rfl)
 refine zBW.2 ?_
 rw[zAO,if_pos rfl,dsz _ k1215,zAa,gtI,zAa]
 show Mpu (zBw (.bool false) (.bool true) _) _
 rw[zAv,if_neg (by decide),zAa]
 cases q4:decide (f.size > 1048576)
 rotate_left
 ·simp only[zBW,zAO,zAU,zAc,if_false,zAv,if_true,zAa,zAl]
  exact bad _ k1215 (by rw[hfoi,q1,q2,q3,q4];rfl)
 rw[zAl,if_neg (by decide),d7 _ (k3.trans (k312.trans k1215)),zAa,hlen,zAa]
 have hfoi2:zKj l i=(List.range l.length).all (zSQ l i):=by rw[hfoi,q1,q2,q3,q4];rfl
 refine zKn (λu h'=>∃ j:Nat,j<=l.length/\u = .int .i64 (j:Nat)/\(List.range j).all (zSQ l i)=true/\Keep zAK h15 h') (λu _=>match u with | .int _ t=>l.length-t.toNat|_=>0) ⟨0,zAA _,rfl,rfl,Keep.refl⟩ ?_
 rintro _ g ⟨j,hj,rfl,hallj,kg⟩ k21 hk21
 rw[zOC,zAa,zAl]
 have k12g:=k1215.trans kg
 by_cases hltj:j<l.length
 rotate_left
 ·rw[if_neg (by simpa using hltj)]
  obtain rfl:j=l.length:=by omega
  exact hk9 _ _ _ _ _ ⟨by rw[hfoi2,hallj],k312.trans k12g⟩
 rw[if_pos (by simpa using hltj)]
 have hgj:l[j]? = some l[j]:=zAj hltj
 have hwj:=hwl _ (zAH hltj)
 have hapj:=hap j
 rw[zUp hgj]at hapj
 generalize l[j]=f2 at *
 obtain⟨b2,o2,hix2,hpt2,_⟩:=(hf.keep ((k13.trans k312).trans k12g) λ_ _=>id).at (i:=j) (x:=zEf f2) (by rw[zAr,hgj];rfl)
 rw[hix2 .i64,zAa,hpt2.agg (zDP hwj),zAa]
 generalize hH23:g.push (.cells (zEf ⟨[],List.replicate 32 0,0⟩).toArray zBq (0,0))=h23
 have k23:Keep zAK g h23:=by rw[<- hH23];exact Keep.push
 have a23:At h23 g.size (zEf ⟨[],List.replicate 32 0,0⟩):=by rw[<- hH23];exact At.push
 obtain⟨h24,st24,a24,k24⟩:=a23.st (n:=34) (ds:=zEf f2) (zDP zAfD) (zDP hwj) zNc
 have gg:=kg.1
 have k1524:Keep zAK h15 h24:=(kg.trans k23).fresh k24 λb hb=>by omega
 have dn2:ld1 h24 (Ptr g.size 0)=some (str f2.name):=a24.ld rfl
 rw[st24,zAV,zAmJ,zAa]
 cases q5:decide (i=j)
 ·refine zBW.2 ?_
  rw[zAe,zAO,if_pos rfl,dn2,zAa,dn _ (k1215.trans k1524),zAa]
  have:=zAgS q1
  refine zAI (zAde (by omega)) ?_
  rintro _ h26 ⟨rfl,k26⟩
  rw[zAv,if_pos rfl,zAa,zAl]
  cases q6:zOB f2.name f.name
  ·rw[if_neg (by decide),zB0 (by omega),zAa]
   exact hk21 _ _ ⟨j+1,by omega,rfl,zQD hallj (by rw[hapj,q5,q6];rfl),k1524.trans k26⟩ (by show l.length-(j+1)<l.length-j;omega)
  ·rw[if_pos rfl]
   exact bad _ (k1215.trans (k1524.trans k26)) (by rw[hfoi2];exact zSb hltj (by rw[hapj,q5,q6];rfl))
 ·refine zBW.2 ?_
  rw[zAf,zAO,if_neg (by decide)]
  show Mpu (zBw (.bool false) undef (.bool false)) _
  rw[zAv,if_neg (by decide),zAa,zAl,if_neg (by decide),zB0 (by omega),zAa]
  exact hk21 _ _ ⟨j+1,by omega,rfl,zQD hallj (by rw[hapj,q5];rfl),k1524⟩ (by show l.length-(j+1)<l.length-j;omega)
def zEy (m:Man):Bool:=zYV m&&zQd m.files
theorem zSc {P:zA3}{H:zAw}{m:Man}{vd vc vf:Value}(hv:zMx P H m vd vc vf)(hd:m.deps.length<=1099511627776)(hc:m.conf.length<=1099511627776)(hO:zRp H) :
  zAz prg zDd [.agg (zGM m vd vc vf).toArray] H λu H'=>u = .bool (zEy m)/\Keep zAK H H':=by
 apply zKr
 unfold zIl
 simp only[zB3,zBb]
 generalize hH1:H.push (.cells (zGM m vd vc vf).toArray zAg (0,0))=H1
 have k1:Keep zAK H H1:=by rw[<- hH1];exact Keep.push
 have a1:At H1 H.size (zGM m vd vc vf):=by rw[<- hH1];exact At.push
 have w:=hv.wf
 rw[zBi,zAa,zAu,zDy a1,zAa]
 refine zAI (zXl w.name) ?_
 rintro _ h2 ⟨rfl,k2⟩
 have a2:=a1.keep k2 id
 have k12:=k1.trans k2
 unfold zEy zYV
 cases h1:zIp m.name
 ·simp only[zBa,zAf,zAe,zAO,zAU,zAv,zAl,zAa,if_true,if_false,zAb,zAc,decide_true,decide_false,reduceCtorEq,zBW,zEJ,zEK,zEG,zEH,zEI,zBm,zA8,zA1]
  exact⟨by trivial,k12⟩
 simp only[zBi,zAh,zJl a2 w,zBa,zAf,zAe,zAO,zAU,zAv,zAl,zAa,if_true,if_false,zAb,zAc,decide_true,decide_false,reduceCtorEq,zBW,zEJ,zEK,zEG,zEH,zEI,zBm,zA8]
 refine zAI (zQu w.ver) ?_
 rintro _ h3 ⟨rfl,k3⟩
 have a3:=a2.keep k3 id
 have k13:=k12.trans k3
 cases h2:zG4 m.ver
 ·simp only[zBa,zAf,zAe,zAO,zAU,zAv,zAl,zAa,if_true,if_false,zAb,zAc,decide_true,decide_false,reduceCtorEq,zBW,zEJ,zEK,zEG,zEH,zEI,zBm,zA8,zA1,zB1]
  exact⟨by trivial,k13⟩
 obtain⟨g5,g6,g7⟩:=zG6 a3 w
 simp only[zBi,zAh,zUj a3 w,g5,zBa,zAf,zAe,zAO,zAU,zAv,zAl,zAa,if_true,if_false,zAb,zAc,decide_true,decide_false,reduceCtorEq,zBW,zEJ,zEK,zEG,zEH,zEI,zBm,zA8]
 refine zAI (zAgJ (hv.d.keep k13 λ_ _=>id) w.deps (hO.keep k13 λ_ h=>h.elim) hd) ?_
 rintro _ h4 ⟨rfl,k4⟩
 have a4:=a3.keep k4 id
 have k14:=k13.trans k4
 cases h3:zOz m.name m.deps
 ·simp only[zBa,zAf,zAe,zAO,zAU,zAv,zAl,zAa,if_true,if_false,zAb,zAc,decide_true,decide_false,reduceCtorEq,zBW,zEJ,zEK,zEG,zEH,zEI,zBm,zA8,zA1,zB1]
  exact⟨by trivial,k14⟩
 obtain⟨g5,g6,g7⟩:=zG6 a4 w
 simp only[zBi,zAh,zUj a4 w,g6,zBa,zAf,zAe,zAO,zAU,zAv,zAl,zAa,if_true,if_false,zAb,zAc,decide_true,decide_false,reduceCtorEq,zBW,zEJ,zEK,zEG,zEH,zEI,zBm,zA8]
 refine zAI (zAgJ (hv.c.keep k14 λ_ _=>id) w.conf (hO.keep k14 λ_ h=>h.elim) hc) ?_
 rintro _ h5 ⟨rfl,k5⟩
 have a5:=a4.keep k5 id
 have k15:=k14.trans k5
 cases h4:zOz m.name m.conf
 ·simp only[zBa,zAf,zAe,zAO,zAU,zAv,zAl,zAa,if_true,if_false,zAb,zAc,decide_true,decide_false,reduceCtorEq,zBW,zEJ,zEK,zEG,zEH,zEI,zBm,zA8,zA1,zB1]
  exact⟨by trivial,k15⟩
 simp only[zUj a5 w,zBa,zAf,zAe,zAO,zAU,zAv,zAl,zAa,if_true,if_false,zAb,zAc,decide_true,decide_false,reduceCtorEq,zBW,zEJ,zEK,zEG,zEH,zEI,zBm,zA8]
 refine zAI (zAfE (hv.keep k15 λ_ _=>id)) ?_
 rintro _ h6 ⟨rfl,k6⟩
 simp only[zBa,zAf,zAe,zAO,zAU,zAv,zAl,zAa,if_true,if_false,zAb,zAc,decide_true,decide_false,reduceCtorEq,zBW,zEJ,zEK,zEG,zEH,zEI,zBm,zA8,zBf]
 exact⟨by trivial,k15.trans k6⟩
end Go.Proofs.YticdfkoncnnmmaaGreatDoor
