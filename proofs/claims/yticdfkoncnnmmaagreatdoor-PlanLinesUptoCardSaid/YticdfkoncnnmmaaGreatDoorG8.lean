import Derived.Test.YticdfkoncnnmmaaGreatDoorG6
import Derived.Test.YticdfkoncnnmmaaGreatDoorG1
import Derived.MapKept
import Derived.Maps.RangeRun
set_option linter.unusedSimpArgs false
set_option linter.unusedVariables false
set_option maxRecDepth 100000
namespace Go.Proofs.YticdfkoncnnmmaaGreatDoor
open Go.X Go.X.Diff
theorem zAic {c:Array Value}{o j n:Nat}{x:List Value}{w:Value}(hx:x.length=n)(hle:o+n<=c.size)(hj:j<n)(hc:(c.toList.drop o).take n=x):spl c o (x.set j w).toArray=c.setIfInBounds (o+j) w:=by
 apply Array.ext'
 rw[zB5]
 unfold spl
 show List.take o c.toList++x.set j w++List.drop (o+(x.set j w).toArray.size) c.toList=_
 have hsz:(x.set j w).toArray.size=n:=by simp[hx]
 rw[hsz]
 have e:c.toList=List.take o c.toList++(x++List.drop (o+n) c.toList):=by
  rw[<- hc,<- zCE,zBu,zBu]
 have hlt:(List.take o c.toList).length=o:=by rw[zAZ];simp;omega
 conv=>rhs;rw[e]
 rw[zCM _ _ (by rw[hlt];omega),hlt,zCF,List.set_append_left _ _ (by omega),zBc]
theorem _root_.Go.X.BufE.st {n:Nat}{F:zA2}{H:zAw}{v:Value}{xs:List (List Value)}(h:BufE n F H v xs){i j:Nat}{x:List Value}(hi:xs[i]? = some x)(hj:j<n){w:Value}(hw:w.oneCell'=true) :
  ∃ b o H',(∀ k,ixS n v (.int k i)=some (Ptr b o))/\Pt H b o x/\st1 H (Ptr b (o+j)) w=some H'/\BufE n F H' v (xs.set i (x.set j w))/\Keep F H H':=by
 obtain⟨hlt,hxe⟩:=zAP.1 hi
 have hxl:x.length=n:=h.1 x (by rw[<- hxe];exact zAG _)
 have hx1:∀ c∈x,c.oneCell'=true:=h.2.1 x (by rw[<- hxe];exact zAG _)
 have h1:∀ c∈x.set j w,c.oneCell'=true:=λc hc=>by
  rcases List.mem_or_eq_of_mem_set hc with hc|rfl
  ·exact hx1 c hc
  ·exact hw
 obtain⟨p,H',hip,hst,hb,hk⟩:=h.set hlt (x:=x.set j w) (by simp[hxl]) h1
 obtain⟨b,o,hib,hpt,_⟩:=h.sl.at hi
 have hpe:p=Ptr b o:=zAK ((hip .i64).symm.trans (hib .i64))
 subst hpe
 refine⟨b,o,H',hib,hpt,?_,hb,hk⟩
 obtain⟨c,T,f,hbb,hle,hc⟩:=hpt
 simp only[stN]at hst
 rw[if_pos (by simp[hxl])]at hst
 unfold stA at hst
 rw[hbb]at hst
 simp only at hst
 split at hst
 ·rename_i hcnd
  obtain⟨c1,c2,c3⟩:=hcnd
  simp only[st1,hbb]
  have hth:zUJ f (o+j) 1=true:=by
   unfold zUJ at c2 ⊢
   simp only[zCe,List.length_set,hxl,zB4,decide_eq_true_eq]at c2 ⊢
   omega
  rw[if_pos ⟨by omega,hth,hw⟩,<- hst]
  rw[hxl]at hc hle
  rw[zAic hxl hle hj hc]
 ·cases hst
theorem zT8 {P:Program}{T:TypeId}{H:zAw}{k:zAn}(hk:k (.map (some H.size)) (H.push (.map #[] 0))):zPd P (Instr.makeMap T none) H k:=λw hw=>by
 subst hw
 refine⟨.map (some w.heap.size),{ w with heap:=w.heap.push (.map #[] 0) },?_,⟨rfl,rfl,rfl,zFT.push⟩,hk⟩
 simp[Instr.makeMap]
def zOf (H:zAw)(q:Nat)(es:List (Value×Value)):Prop:=∃ (arr:Array MapEntry) (clock:Nat),H[q]? = some (.map arr clock)/\arr.toList.map (λe=>(e.key,e.val))=es/\(∀ e∈arr.toList,e.born<clock)/\(arr.toList.map (·.born)).Nodup
theorem zOf.keep {H H':zAw}{q:Nat}{es:List (Value×Value)}{S:zA2}(h:zOf H q es)(k:Keep S H H')(hs:¬ S q):zOf H' q es:=by
 obtain⟨a,c,h1,h2⟩:=h
 exact⟨a,c,k.at h1 hs,h2⟩
theorem zOf.new {H:zAw}:zOf (H.push (.map #[] 0)) H.size []:=⟨#[],0,zCa,rfl,(λe h=>by cases h),List.nodup_nil⟩
open Go.MapKept
def zAkZ (P:Program)(mty:TypeId)(d:TypeDesc)(z:Value):Prop:=∃ kt et,P.underlying mty=some (.map kt et)/\P.underlying kt=some d/\∀ w:World,(zeroValue et).run P w = .ok z w
def zAid (ok:Bool)(v:Value)(b:Bool):Value:=if ok then .tuple #[v,.bool b] else v
theorem zVg {arr:Array MapEntry}{es:List (Value×Value)}(h:arr.toList.map (λe=>(e.key,e.val))=es){j:Nat}{e:MapEntry}(hj:arr.toList[j]? = some e):es[j]? = some (e.key,e.val):=by
 rw[<- h,zAp,hj];rfl
theorem zZP {P:Program}{mty:TypeId}{d:TypeDesc}{z key:Value}{ok:Bool}{H:zAw}{q:Nat}{es:List (Value×Value)}{k:zAn}(hT:zAkZ P mty d z)(hm:zOf H q es)(hks:∀ x∈es,IsKey d x.1)(hk:IsKey d key)
  (h1:∀ v,(key,v)∈es->k (zAid ok v true) H) (h2:(∀ x∈es,x.1≠key)->k (zAid ok z false) H):zPd P (Instr.lookup mty (.map (some q)) key ok) H k:=λw hw=>by
 subst hw
 obtain⟨kt,et,t1,t2,t3⟩:=hT
 obtain⟨arr,clock,hb,he,hbn,hnd⟩:=hm
 have hks':∀ x∈arr.toList,IsKey d x.key:=λx hx=>hks (x.key,x.val) (by rw[<- he];exact zAo.2 ⟨x,hx,rfl⟩)
 rcases findNow_spec hk arr.toList 0 hks' with ⟨f1,f2⟩|⟨j,e,f1,f2,f3⟩
 ·refine⟨zAid ok z false,w,?_,zJs.rfl' _,h2 λx hx=>?_⟩
  ·cases ok<;>simp[Instr.lookup,run_underlying t1,Go.MapKept.run_getObj_map hb,run_checkKey t2 hk,run_findKey t2 f1,t3,Result.andThen,zAid]
  ·rw[<- he]at hx
   obtain⟨y,hy,rfl⟩:=zAo.1 hx
   exact f2 y hy
 ·refine⟨zAid ok e.val true,w,?_,zJs.rfl' _,h1 _ ?_⟩
  ·cases ok<;>simp[Instr.lookup,run_underlying t1,Go.MapKept.run_getObj_map hb,run_checkKey t2 hk,run_findKey t2 f1,Result.andThen,zAid]
  ·have:=zVg he f2
   rw[f3]at this
   exact zAB this
theorem zT9 {arr:Array MapEntry}{j:Nat}{key val:Value}:(arr.modify j λe=>{ e with key:=key,val:=val }).toList.map (·.born)=arr.toList.map (·.born):=by
 apply zCP
 intro i
 rw[zAp,zAp,Array.toList_modify,List.getElem?_modify]
 by_cases h:j=i
 ·subst h
  cases arr.toList[j]? <;> simp
 ·simp[h]
theorem zZQ {P:Program}{mty:TypeId}{d:TypeDesc}{z key val:Value}{H:zAw}{q:Nat}{es:List (Value×Value)}{k:zAn}(hT:zAkZ P mty d z)(hm:zOf H q es)(hks:∀ x∈es,IsKey d x.1)(hk:IsKey d key)
  (h1:∀ j v H',es[j]? = some (key,v)->zOf H' q (es.set j (key,val))->Keep (· = q) H H'->k undef H') (h2:∀ H',(∀ x∈es,x.1≠key)->zOf H' q (es++[(key,val)])->Keep (· = q) H H'->k undef H'):Msu P (Instr.mapUpdate mty (.map (some q)) key val) H k:=λw hw=>by
 subst hw
 obtain⟨kt,et,t1,t2,t3⟩:=hT
 obtain⟨arr,clock,hb,he,hbn,hnd⟩:=hm
 have hks':∀ x∈arr.toList,IsKey d x.key:=λx hx=>hks (x.key,x.val) (by rw[<- he];exact zAo.2 ⟨x,hx,rfl⟩)
 have hsol:∀ o:Obj,(∀ ds,o ≠ .deferred ds)->zFT w.heap (w.heap.setIfInBounds q o):=λo ho i ds hi=>by
  rw[zAD]
  split
  ·rename_i e;subst e;rw[hb]at hi;cases hi
  ·exact hi
 rcases findNow_spec hk arr.toList 0 hks' with ⟨f1,f2⟩|⟨j,e,f1,f2,f3⟩
 ·refine⟨{ w with heap:=w.heap.setIfInBounds q (.map (arr.push { key,val,born:=clock }) (clock+1)) },?_,⟨rfl,rfl,rfl,hsol _ (λ_ e=>by cases e)⟩,h2 _ (λx hx=>?_) ⟨_,_,(heap_set hb).1,?_,?_,?_⟩ (Keep.set rfl)⟩
  ·simp[Instr.mapUpdate,run_underlying t1,Go.MapKept.run_getObj_map hb,run_checkKey t2 hk,run_findKey t2 f1,Go.MapKept.run_setObj_map _ hb,Result.andThen]
  ·rw[<- he]at hx
   obtain⟨y,hy,rfl⟩:=zAo.1 hx
   exact f2 y hy
  ·rw[Array.toList_push,zAE,he];rfl
  ·intro x hx
   rw[Array.toList_push]at hx
   rcases zAt.1 hx with hx|hx
   ·have:=hbn x hx;omega
   ·rw[zAF.1 hx];show clock<clock+1;omega
  ·rw[Array.toList_push,zAE,zCA]
   refine⟨hnd,by simp,λa ha b hb' e=>?_⟩
   obtain⟨x,hx,rfl⟩:=zAo.1 ha
   have hb'':b=clock:=by simpa using hb'
   have:=hbn x hx;omega
 ·have hj:arr[j]? = some e:=by simpa using f2
  have hes:=zVg he f2
  rw[f3]at hes
  refine⟨{ w with heap:=w.heap.setIfInBounds q (.map (arr.modify j λe=>{ e with key:=key,val:=val }) clock) },?_,⟨rfl,rfl,rfl,hsol _ (λ_ e=>by cases e)⟩,h1 j e.val _ hes ⟨_,_,(heap_set hb).1,?_,?_,?_⟩ (Keep.set rfl)⟩
  ·simp[Instr.mapUpdate,run_underlying t1,Go.MapKept.run_getObj_map hb,run_checkKey t2 hk,run_findKey t2 f1,hj,f3,run_keyThatStays hk,Go.MapKept.run_setObj_map _ hb,Result.andThen]
  ·rw[<- he]
   apply zCP
   intro i
   rw[Array.toList_modify,zAp,List.getElem?_modify,List.getElem?_set]
   by_cases hij:j=i
   ·subst hij
    obtain⟨hlt,_⟩:=zAP.1 f2
    have hlt':j<arr.size:=by simpa using hlt
    simp[f2,hlt']
   ·rw[if_neg hij]
    simp[hij]
  ·intro x hx
   have:x.born∈arr.toList.map (·.born):=by rw[<- zT9 (j:=j) (key:=key) (val:=val)];exact zAo.2 ⟨x,hx,rfl⟩
   obtain⟨y,hy,e⟩:=zAo.1 this
   rw[<- e];exact hbn y hy
  ·rw[zT9];exact hnd
def zAaN (H:zAw)(r q:Nat)(es:List (Value×Value))(vis:List Nat):Prop:=∃ (arr:Array MapEntry) (clock:Nat) (seen:Array Nat),H[q]? = some (.map arr clock)/\arr.toList.map (λe=>(e.key,e.val))=es/\(∀ e∈arr.toList,e.born<clock)/\(arr.toList.map (·.born)).Nodup /\
 H[r]? = some (.mapIter (some q) clock seen clock)/\r≠q/\vis.Nodup/\(∀ i∈vis,i<arr.size)/\(∀ i (h:i<arr.size),arr[i].born∈seen↔i∈vis)/\seen.toList=vis.map λi=>(arr[i]?.map (·.born)).getD 0
theorem zAaN.keep {H H':zAw}{r q:Nat}{es:List (Value×Value)}{vis:List Nat}{S:zA2}(h:zAaN H r q es vis)(k:Keep S H H')(hr:¬ S r)(hq:¬ S q):zAaN H' r q es vis:=by
 obtain⟨arr,clock,seen,h1,h2,h3,h4,h5,h6⟩:=h
 exact⟨arr,clock,seen,k.at h1 hq,h2,h3,h4,k.at h5 hr,h6⟩
theorem zAaN.map {H:zAw}{r q:Nat}{es:List (Value×Value)}{vis:List Nat}(h:zAaN H r q es vis):zOf H q es:=by
 obtain⟨arr,clock,seen,h1,h2,h3,h4,_⟩:=h
 exact⟨arr,clock,h1,h2,h3,h4⟩
theorem zAfi {P:Program}{T k' e:TypeId}{H:zAw}{q:Nat}{es:List (Value×Value)}{k:zAn}(ht:P.underlying T=some (.map k' e))(hm:zOf H q es)(hk:∀ H',zAaN H' H.size q es []->Keep zAM H H'->k (Ptr H.size 0) H'):zPd P (Instr.range T (.map (some q))) H k:=λw hw=>by
 subst hw
 obtain⟨arr,clock,hb,he,hbn,hnd⟩:=hm
 refine⟨_,_,run_range_map w T k' e q arr clock ht hb,⟨rfl,rfl,rfl,zFT.push⟩,hk _ ⟨arr,clock,#[],zS8 hb,he,hbn,hnd,zCa,?_,List.nodup_nil,(λi h=>by cases h),(λi h=>by simp),rfl⟩ Keep.push⟩
 have:=lt_of hb;omega
theorem zAie {P:Program}{T:TypeId}{H:zAw}{r q:Nat}{es:List (Value×Value)}{vis:List Nat}{k:zAn}(hI:zAaN H r q es vis)
  (h1:∀ (i:Nat) (x:Value×Value),es[i]? = some x->i∉vis->∀ H',zAaN H' r q es (vis++[i])->Keep (· = r) H H'->k (.tuple #[.bool true,x.1,x.2]) H') (h2:(∀ i,i<es.length->i∈vis)->k (.tuple #[.bool false]) H) :
  zPd P (Instr.next (Ptr r 0) false T) H k:=λw hw=>by
 subst hw
 obtain⟨arr,clock,seen,hb,he,hbn,hnd,hr,hrq,hv,hvl,hs,hsv⟩:=hI
 have hlen:es.length=arr.size:=by rw[<- he];simp
 rcases run_next_at w T r q clock clock seen arr clock hr hb hbn (zAh _) with ⟨h0,hrun⟩|⟨e,hel,w1,hw1,hrun⟩
 ·refine⟨_,w,hrun,zJs.rfl' _,h2 λi hi=>?_⟩
  have hi':i<arr.size:=by omega
  refine(hs i hi').1 ?_
  have:¬ arr[i]∈leftOf arr seen:=λhm=>by
   have:=Array.size_pos_of_mem hm;omega
  unfold leftOf at this
  rw[Array.mem_filter]at this
  simpa using this
 ·have hem:e∈leftOf arr seen:=by simpa using hel
  unfold leftOf at hem
  rw[Array.mem_filter]at hem
  obtain⟨hea,hns⟩:=hem
  obtain⟨i,hi,rfl⟩:=Array.getElem_of_mem hea
  have hnv:i∉vis:=λh=>by
   have:=(hs i hi).2 h
   simp[this]at hns
  have hh:(w1.heap:zAw)=w.heap:=by rcases hw1 with rfl|rfl<;>rfl
  have hsame:zJs w w1:=by
   rcases hw1 with rfl|rfl
   ·exact zJs.rfl' _
   ·exact⟨rfl,rfl,rfl,zFT.rfl'⟩
  have hset:(ChangeMaps.setBlock w1 r (.mapIter (some q) clock (seen.push arr[i].born) clock)).heap=(w.heap:zAw).setIfInBounds r (.mapIter (some q) clock (seen.push arr[i].born) clock):=by
   show(w1.heap:zAw).setIfInBounds r _=_
   rw[hh]
  refine⟨_,_,hrun,⟨hsame.os,hsame.tape,hsame.output,?_⟩,?_⟩
  ·rw[hset]
   intro j ds hj
   rw[zAD]
   split
   ·rename_i e;subst e;rw[hr]at hj;cases hj
   ·exact hj
  ·rw[hset]
   refine h1 i (arr[i].key,arr[i].val) ?_ hnv _ ⟨arr,clock,seen.push arr[i].born,?_,he,hbn,hnd,zBm hr,hrq,?_,?_,?_,by rw[Array.toList_push,hsv,zAE];simp[hi]⟩ (Keep.set rfl)
   ·rw[<- he,zAp]
    simp[hi]
   ·exact zAb9 hb hrq
   ·rw[zCA]
    exact⟨hv,by simp,λa ha b hb e=>by simp at hb;subst hb;subst e;exact hnv ha⟩
   ·intro j hj
    rcases zAt.1 hj with hj|hj
    ·exact hvl j hj
    ·rw[zAF.1 hj];exact hi
   ·intro j hj
    rw[Array.mem_push,hs j hj,zAt,zAF]
    refine or_congr Iff.rfl ⟨λe=>?_,λe=>by subst e;rfl⟩
    have hp:=zBG.1 (zBA.1 (zB0.1 hnd))
    have hjl:j<arr.toList.length:=by simpa using hj
    have hil:i<arr.toList.length:=by simpa using hi
    rcases Nat.lt_trichotomy j i with h|h|h
    ·exact absurd e (by simpa using hp j i hjl hil h)
    ·exact h
    ·exact absurd e.symm (by simpa using hp i j hil hjl h)
theorem zAfj {P:Program}{H:zAw}{r q i:Nat}{es:List (Value×Value)}{vis:List Nat}{x:Value×Value}{k:zAn}(hI:zAaN H r q es (vis++[i]))(hx:es[i]? = some x)(hk:k (.tuple #[x.1,x.2]) H):zPd P (Instr.entry (Ptr r 0)) H k:=λw hw=>by
 subst hw
 obtain⟨arr,clock,seen,hb,he,hbn,hnd,hr,hrq,hv,hvl,hs,hsv⟩:=hI
 have hi:i<arr.size:=hvl i (by simp)
 have hseen:seen=(vis.map λi=>(arr[i]?.map (·.born)).getD 0).toArray.push arr[i].born:=by
  apply Array.ext'
  rw[hsv,zAE,Array.toList_push]
  simp[hi]
 rw[hseen]at hr
 have hxe:x=(arr[i].key,arr[i].val):=by
  rw[<- he,zAp]at hx
  simp[hi]at hx
  exact hx.symm
 subst hxe
 exact⟨_,w,run_entry_at w r q clock _ arr clock arr[i] hr hb (by simp) hnd,zJs.rfl' w,hk⟩
def zOg (a b:List UInt8):Bool:=decide (a=b) || (decide ((b++[47]).length<=a.length)&&decide (a.take (b++[47]).length=b++[47]))
theorem zAcO {H:zAw}{a b:List UInt8}(hb:b.length<=1048576):zAz prg zIN [str a,str b] H λu H'=>u = .bool (zOg a b)/\Keep zAM H H':=by
 apply zOt
 unfold zN5
 have e:=λq=>zDG (q:=q) (a:=a) (b:=b)
 have s:(Value.string ⟨#[47]⟩)=str [47]:=rfl
 rw[e,zAa,s]
 unfold zOg
 cases h:decide (a=b)
 ·simp only[zBQ,zAO,if_true,Bool.false_or]
  rw[zTX (by simp;omega),zAa]
  refine zAJ (R:=λu H'=>u = .bool (decide ((b++[47]).length<=a.length)&&decide (a.take (b++[47]).length=b++[47]))/\H=H') ?_ ?_
  ·apply zIc
   unfold zIn
   refine zAJ zTZ ?_
   rintro _ _ ⟨rfl,rfl⟩
   exact⟨rfl,rfl⟩
  ·rintro _ _ ⟨rfl,rfl⟩
   simp only[zAv,zAb,if_false,zAa]
   exact⟨by trivial,Keep.refl⟩
 ·simp only[zBQ,zAO,zAc,if_false,zAv,if_true,zAa,Bool.true_or]
  exact⟨by trivial,Keep.refl⟩
def fnL:List UInt8:=[97,98,99,100,101,102,103,104,105,106,107,108,109,110,111,112,113,114,115,116,117,118,119,120,121,122,48,49,50,51,52,53,54,55,56,57,46,95,45]
def zMR (w:List UInt8):Bool:=!decide (w=[]) && !decide (w=[46]) && !decide (w=[46,46])&&decide (zN9 fnL (zNJ fnL w)=[])
def zAbq (l:List UInt8):Bool:=!decide (l=[])&&decide (l.length<=64)&&(zDW 47 l).all zMR
structure FnI (H:zAw)(l:List UInt8)(j:Nat)(h:zAw):Prop where
 a:At h H.size [.bool false]
 ok:((zDW 47 l).take j).all zMR=true
 k:Keep zAM H h
theorem FnI.keep {H:zAw}{l:List UInt8}{j:Nat}{h h':zAw}{S:zA2}(p:FnI H l j h)(k:Keep S h h')(hs:∀ b,S b->H.size<b):FnI H l j h' :=
 ⟨p.a.keep k λhS=>by have:=hs _ hS;omega,p.ok,p.k.fresh k λb hb=>by have:=hs b hb;omega⟩
theorem zAif:zBE prg zWN=some [Value.bool false].toArray:=by kernel_rfl
set_option maxHeartbeats 2000000 in
theorem zYw {H:zAw}{l:List UInt8}:zAz prg zPn [str l] H λu H'=>u = .bool (zAbq l)/\Keep zAM H H':=by
 apply zQL
 unfold zRo
 simp only[zAif,zBa]
 generalize hH1:H.push (.cells [Value.bool false].toArray zWN (0,0))=H1
 have k1:Keep zAM H H1:=by rw[<- hH1];exact Keep.push
 have a1:At H1 H.size [.bool false]:=by rw[<- hH1];exact At.push
 have s1:H1.size=H.size+1:=by rw[<- hH1];simp
 have s0:(Value.string ⟨#[]⟩)=str []:=rfl
 have s47:(Value.string ⟨#[47]⟩)=str [47]:=rfl
 have s46:(Value.string ⟨#[46]⟩)=str [46]:=rfl
 have s446:(Value.string ⟨#[46,46]⟩)=str [46,46]:=rfl
 have sfn:(Value.string ⟨#[97,98,99,100,101,102,103,104,105,106,107,108,109,110,111,112,113,114,115,116,117,118,119,120,121,122,48,49,50,51,52,53,54,55,56,57,46,95,45]⟩)=str fnL:=rfl
 have e0:=λq=>zDG (q:=q) (a:=l) (b:=[])
 have e64:zAC .no .gtr (.int .i64 (l.length:Nat)) (.int .i64 64)=some (.bool (decide (l.length > 64))):=zAjR
 rw[s0,s47,s46,s446,sfn,e0,zAa]
 have no:∀ h,At h H.size [.bool false]->Keep zAM H h->zAbq l=false->Mwr (st1 h (Ptr H.size 0) (.bool false)) λh4=>Mcl H.size h4 λh5=>Mpu (ld1 h5 (Ptr H.size 0)) λr6=>r6 = .bool (zAbq l)/\Keep zAM H h5:=λh a kh hf=>by
  obtain⟨h4,st4,a4,k4⟩:=a.st1 (i:=0) (v := .bool false) (by simp) rfl
  rw[st4,zAV]
  refine zVU λh5 hc=>?_
  have d:ld1 h5 (Ptr H.size 0)=some (.bool false):=(a4.closed hc).ld rfl
  rw[d,zAa]
  exact⟨by rw[hf],zHW (kh.fresh k4 λb hb=>by omega) hc⟩
 cases hnil:decide (l=[])
 rotate_left
 ·simp only[zBQ,zAO,zAc,if_false,zAv,if_true,zAa,zAl]
  exact no H1 a1 k1 (by unfold zAbq;rw[hnil];rfl)
 refine zBQ.2 ?_
 rw[zAO,if_pos rfl,zE5,zAa,e64,zAa]
 cases h64:decide (l.length > 64)
 rotate_left
 ·simp only[zAv,if_true,zAb,if_false,zAa,zAl]
  exact no H1 a1 k1 (by unfold zAbq;rw[hnil,decide_eq_false (show ¬ l.length<=64 by have:=of_decide_eq_true h64;omega)];rfl)
 have hl:l.length<=64:=by have:=of_decide_eq_false h64;omega
 have hfo:zAbq l=(zDW 47 l).all zMR:=by unfold zAbq;rw[hnil,decide_eq_true hl];rfl
 rw[zAv,if_neg (by decide),zAa,zAl,if_neg (by decide)]
 refine zAJ zVb ?_
 rintro _ h5 ⟨qs,qp,qn,rfl,hst,hq,k5⟩
 have g5:=k5.1
 have k05:=k1.trans k5
 have inv0:FnI H l 0 h5:=⟨a1.keep k5 id,rfl,k05⟩
 have hxl:((zDW 47 l).map λx=>[str x]).length=(zDW 47 l).length:=by simp
 refine range_i (xs:=(zDW 47 l).map λx=>[str x]) (S:=λb=>b=qs\/b=qp\/b=qn) (W:=λb=>b=H.size\/h5.size+2<=b) (St:=zQQ qs qp qn l 47)
  (zVa (by omega)) (λo o'=>?_) k05.1
  (FnI H l) (λc h=>c = .ret/\(zDW 47 l).all zMR=false/\At h H.size [.bool false]/\Keep zAM H h) inv0
  (λi h h' hI k=>hI.keep k λb hb=>?_) (λc h h' hX k=>?_) (λb hb=>(hq b hb).2) (λb hb=>?_) ?_ ?_ ?_
 ·have kp:Keep zAM h5 ((h5.push o).push o'):=Keep.push.trans Keep.push
  exact⟨hst.s.keep kp id,hst.p.keep kp id,hst.n.keep kp id,hst.ne⟩
 ·rcases hb with hb|rfl|rfl
  ·have:=hq b hb;omega
  ·omega
  ·omega
 ·obtain⟨rfl,x0,x1,x4⟩:=hX
  have nb:∀ b,(b=qs\/b=qp\/b=qn)\/b=h5.size\/b=h5.size+1->H.size<b:=λb hb=>by
   rcases hb with hb|rfl|rfl
   ·have:=hq b hb;omega
   ·omega
   ·omega
  exact⟨rfl,x0,x1.keep k λhb=>by have:=nb _ hb;omega,x4.fresh k λb hb=>by have:=nb b hb;omega⟩
 ·refine⟨by omega,by omega,λhbq=>?_⟩
  have:=hq b hbq;omega
 ·intro j x h r hx hI hloop hready K hN hEx
  obtain⟨y,hy,rfl⟩:∃ y,(zDW 47 l)[j]? = some y/\x=[str y]:=by
   rw[zAp]at hx
   obtain⟨y,h1,h2⟩:=zBy.1 hx
   exact⟨y,h1,h2.symm⟩
  refine⟨rfl,r,hloop,hready,?_⟩
  have hsz:=lt_of hloop
  generalize hhb:h.setIfInBounds (h5.size+1) (.loop { r with state := .busy })=hb at *
  have kb:Keep (· = h5.size+1) h hb:=by rw[<- hhb];exact Keep.set rfl
  have gb:=kb.1
  have hI:=hI.keep kb λb hb=>by omega
  have hmem:y∈zDW 47 l:=zAB hy
  have hyl:=zOb hmem
  have htk:(zDW 47 l).take (j+1)=(zDW 47 l).take j++[y]:=by rw[zAI,hy];rfl
  have bad:∀ h',Keep zAM hb h'->zMR y=false->Mwr (st1 h' (Ptr H.size 0) (.bool false)) λh21=>K (some Code.ret) h21:=λh' k' hf=>by
   obtain⟨h12,st12,a12,k12⟩:=(hI.a.keep k' id).st1 (i:=0) (v := .bool false) (by simp) rfl
   rw[st12,zAV]
   have kW:Keep (λb=>b=H.size\/h5.size+2<=b) hb h12:=(k'.mono λ_ _ h=>h.elim).trans (k12.mono λb _ h => .inl h)
   exact hEx _ h12 kW ⟨rfl,zDc.2 ⟨y,hmem,by simp[hf]⟩,a12,hI.k.fresh kW λb hb'=>by omega⟩
  have good:∀ h',Keep zAM hb h'->zMR y=true->K none h':=λh' k' hf=>by
   refine hN h' (k'.mono λ_ _ h=>h.elim) ⟨hI.a.keep k' id,?_,hI.k.trans k'⟩
   rw[htk,List.all_append,hI.ok];simp[hf]
  have q0:=λq=>zDG (q:=q) (a:=y) (b:=[])
  have q1:=λq=>zDG (q:=q) (a:=y) (b:=[46])
  have q2:=λq=>zDG (q:=q) (a:=y) (b:=[46,46])
  show Mpu (zAC .no .eql (str y) (str [])) _
  rw[q0,zAa]
  cases p0:decide (y=[])
  rotate_left
  ·simp only[zBQ,zAO,zAc,if_false,zAv,if_true,zAa,zAl]
   exact bad hb Keep.refl (by unfold zMR;rw[p0];rfl)
  refine zBQ.2 ?_
  rw[zAO,if_pos rfl]
  show Mpu (zAC .no .eql (str y) (str [46])) _
  rw[q1,zAa]
  cases p1:decide (y=[46])
  rotate_left
  ·simp only[zBQ,zAO,zAc,zAb,if_false,zAv,if_true,zAa,zAl]
   exact bad hb Keep.refl (by unfold zMR;rw[p0,p1];rfl)
  rw[zAv,if_neg (by decide),zAa]
  refine zBQ.2 ?_
  rw[zAO,if_pos rfl]
  show Mpu (zAC .no .eql (str y) (str [46,46])) _
  rw[q2,zAa]
  cases p2:decide (y=[46,46])
  rotate_left
  ·simp only[zBQ,zAO,zAc,zAb,if_false,zAv,if_true,zAa,zAl]
   exact bad hb Keep.refl (by unfold zMR;rw[p0,p1,p2];rfl)
  rw[zAv,if_neg (by decide),zAa]
  refine zBQ.2 ?_
  rw[zAO,if_pos rfl]
  show zA3 prg zHb [str y,str fnL] hb _
  refine zAJ (zAcj (cs:=fnL) (by decide) (by decide) (by decide) (by omega)) ?_
  rintro _ h19 ⟨rfl,k19⟩
  have q3:zAC .no .neq (str (zN9 fnL (zNJ fnL y))) (str [])=some (.bool (!decide (zN9 fnL (zNJ fnL y)=[]))):=zTY
  rw[q3,zAa]
  show Mpu (zBH (.bool false) (.bool true) (.bool (!decide (zN9 fnL (zNJ fnL y)=[])))) _
  rw[zAv,if_neg (by decide),zAa,zAl]
  have hpo:zMR y=decide (zN9 fnL (zNJ fnL y)=[]):=by unfold zMR;rw[p0,p1,p2];rfl
  cases p3:decide (zN9 fnL (zNJ fnL y)=[])
  ·rw[if_pos (show(!false)=true from rfl)]
   exact bad h19 k19 (by rw[hpo,p3])
  ·rw[if_neg (show ¬ (!true)=true by decide)]
   exact good h19 k19 (by rw[hpo,p3])
 ·intro h hsz hI
  refine .inl ⟨rfl,?_⟩
  rw[hxl]at hI
  obtain⟨h22,st22,a22,k22⟩:=hI.a.st1 (i:=0) (v := .bool true) (by simp) rfl
  have hok:=hI.ok
  rw[zAs (zAh _)]at hok
  show Mwr (st1 h (Ptr H.size 0) (.bool true)) _
  rw[st22,zAV]
  refine zVU λh23 hc=>?_
  have d:ld1 h23 (Ptr H.size 0)=some (.bool true):=(a22.closed hc).ld rfl
  show Mpu (ld1 h23 (Ptr H.size 0)) _
  rw[d,zAa]
  exact⟨by rw[hfo,hok],zHW (hI.k.fresh k22 λb hb=>by omega) hc⟩
 ·rintro c h hsz ⟨rfl,x0,x1,x4⟩
  refine .inr ⟨rfl,?_⟩
  refine zVU λh25 hc=>?_
  have d:ld1 h25 (Ptr H.size 0)=some (.bool false):=(x1.closed hc).ld rfl
  show Mpu (ld1 h25 (Ptr H.size 0)) _
  rw[d,zAa]
  exact⟨by rw[hfo,x0],zHW x4 hc⟩
theorem zOC {n m:Nat}:zAC .no .lss (.int .i64 (n:Nat)) (.int .i64 (m:Nat))=some (.bool (decide (n<m))):=by
 rw[zAH];simp only[zC3];congr 2;rw[decide_eq_decide];omega
theorem zAbr {n m:Nat}:zAC .no .gtr (.int .i64 (n:Nat)) (.int .i64 (m:Nat))=some (.bool (decide (n > m))):=by
 rw[zAH];simp only[zC3];congr 2;rw[decide_eq_decide];omega
theorem zAi4 {n m:Nat}:zAC .no .eql (.int .i64 (n:Nat)) (.int .i64 (m:Nat))=some (.bool (decide (n=m))):=by
 rw[zAH];simp only[zC3];congr 2;rw[zA4];simp<;>omega
theorem zAmp {n m:Nat}:zAC .no .neq (.int .i64 (n:Nat)) (.int .i64 (m:Nat))=some (.bool (!decide (n=m))):=by
 rw[zAH];simp only[zC3];congr 2;rw[zA4];simp<;>omega
theorem ltI {x y:Int}:zAC .no .lss (.int .i64 x) (.int .i64 y)=some (.bool (decide (x<y))):=by rw[zAH];rfl
theorem gtI {x y:Int}:zAC .no .gtr (.int .i64 x) (.int .i64 y)=some (.bool (decide (x > y))):=by rw[zAH];rfl
theorem geI {x y:Int}:zAC .no .geq (.int .i64 x) (.int .i64 y)=some (.bool (decide (x>=y))):=by rw[zAH];rfl
theorem eqI {x y:Int}:zAC .no .eql (.int .i64 x) (.int .i64 y)=some (.bool (decide (x=y))):=by
 rw[zAH];simp only[zC3];congr 2
theorem neI {x y:Int}:zAC .no .neq (.int .i64 x) (.int .i64 y)=some (.bool (!decide (x=y))):=by
 rw[zAH];simp only[zC3];congr 2
theorem zRB {p:Nat->Bool}{n i:Nat}(hi:i<n)(h:p i=false):(List.range n).all p=false:=zDc.2 ⟨i,zBZ.2 hi,by simp[h]⟩
theorem zP7 {p:Nat->Bool}{i:Nat}(h:(List.range i).all p=true)(hb:p i=true):(List.range (i+1)).all p=true:=by
 rw[List.range_succ,List.all_append,h];simp[hb]
theorem zAaO {H:zAw}{d:zHl}(hd:d.wf):zAz prg zEv [.agg (zEg d).toArray] H λu H'=>u=str d.name/\Keep zAM H H':=by
 apply zMH
 unfold zLc
 simp only[zB1,zBa]
 have a:At (H.push (.cells (zEg d).toArray zBn (0,0))) H.size (zEg d):=At.push
 have d0:ld1 (H.push (.cells (zEg d).toArray zBn (0,0))) (Ptr H.size 0)=some (str d.name):=a.ld rfl
 rw[zBf,zAa,zAu,d0,zAa]
 exact⟨rfl,Keep.push⟩
theorem zAaP {P:zA2}{H:zAw}{v:Value}{l:List zHl}(hv:SlE 34 P H v (l.map zEg))(hw:∀ d∈l,d.wf)(hl:l.length<=1099511627776) :
  zAz prg zEK [v,.func (.func zEv) #[] #[]] H λu H'=>u = .bool (zRw (l.map (·.name)))/\Keep zAM H H':=by
 apply zH2
 unfold zGi
 have hlen:=hv.len
 rw[zAf]at hlen
 have hln:(l.map (·.name)).length=l.length:=by simp
 have hcall:∀ (d:zHl) (h:zAw) (k:zAn),d.wf->(∀ h',Keep zAM h h'->k (str d.name) h')->zDM prg (.func (.func zEv) #[] #[]) [.agg (zEg d).toArray] h k:=λd h k hd hk =>
  .inl ⟨zEv,#[],#[],rfl,by kernel_rfl,zAz.mono (R:=λu H'=>u=str d.name/\Keep zAM h H') (zAaO hd) λu h' hR=>by obtain⟨rfl,k'⟩:=hR;exact hk h' k'⟩
 refine zNW (λ_ h=>zRw (l.map (·.name))=true/\Keep zAM H h) (λk hk=>?_) ?_
 ·refine zKa (λu h=>∃ i:Nat,1<=i/\u = .int .i64 (i:Nat)/\(List.range (min i l.length)).all (zOU (l.map (·.name)))=true/\Keep zAM H h) (λu _=>match u with | .int _ t=>l.length-t.toNat|_=>0) ⟨1,zAh _,rfl,?_,Keep.refl⟩ ?_
  ·by_cases h0:l.length=0
   ·rw[h0];rfl
   ·rw[zBI (by omega)];rfl
  rintro _ h ⟨i,hi,rfl,hall,kh⟩ k2 hk2
  rw[hlen,zAa,zOC,zAa,zAl]
  by_cases hlt:i<l.length
  ·rw[if_pos (by simpa using hlt)]
   have hg:l[i]? = some l[i]:=zAj hlt
   have hg':l[i-1]? = some (l[i-1]'(by omega)):=zAj (by omega)
   have hvh:=hv.keep kh λ_ _=>id
   obtain⟨b,o,hix,hpt,_⟩:=hvh.at (i:=i) (x:=zEg l[i]) (by rw[zAp,hg];rfl)
   obtain⟨b',o',hix',hpt',_⟩:=hvh.at (i:=i-1) (x:=zEg (l[i-1]'(by omega))) (by rw[zAp,hg'];rfl)
   have hwd:=hw _ (zAG hlt)
   have hwd':=hw _ (zAG (show i-1<l.length by omega))
   have hra:zOU (l.map (·.name)) i=zWW (l[i-1]'(by omega)).name l[i].name:=by
    have h0:((l.map (·.name)).getD (i-1) [])=(l[i-1]'(by omega)).name:=by simp[List.getD,hg']
    have h1:((l.map (·.name)).getD i [])=l[i].name:=by simp[List.getD,hg]
    unfold zOU
    rw[h0,h1,decide_eq_false (by omega)];rfl
   generalize l[i]=d at *
   generalize (l[i-1]'(by omega))=d' at *
   have e2:zAC .no .sub (.int .i64 (i:Nat)) (.int .i64 1)=some (.int .i64 ((i-1:Nat):Int)):=by
    rw[zAH];simp only[zC3];rw[zB9 (by omega) (by omega)];congr 2;omega
   rw[e2,zAa,hix' .i64,zAa,hpt'.agg (zDN hwd'),zAa,hix .i64,zAa,hpt.agg (zDN hwd),zAa]
   refine hcall d' h _ hwd' λh5 k5=>?_
   refine⟨(hpt.keep k5 id).agg (zDN hwd),?_⟩
   refine hcall d h5 _ hwd λh6 k6=>?_
   have hge:zAC .no .geq (str d'.name) (str d.name)=some (.bool (!zWW d'.name d.name)):=by rw[zGn];exact zZo
   rw[hge,zAa,zAl]
   have kk:=kh.trans (k5.trans k6)
   cases hb:zWW d'.name d.name
   ·rw[if_pos (show(!false)=true from rfl)]
    exact⟨by rw[zZJ (i:=i) (by rw[hln];exact hlt) (by rw[hra,hb])],kk⟩
   ·rw[if_neg (by decide),zBV (by omega),zAa]
    refine hk2 _ _ ⟨i+1,by omega,rfl,?_,kk⟩ (by show l.length-(i+1)<l.length-i;omega)
    rw[zBI (by omega)]at hall ⊢
    exact zW4 hall (by rw[hra,hb])
  ·rw[if_neg (by simpa using hlt)]
   refine hk _ _ ⟨?_,kh⟩
   rw[Nat.min_eq_right (by omega)]at hall
   unfold zRw
   rw[hln];exact hall
 ·rintro _ h ⟨h1,h2⟩
  exact⟨by rw[h1],h2⟩
def zXe:zHl:=⟨[],[],0⟩
def zSk (l:List zHl)(i j:Nat):Bool:=decide (i=j) || !zOg (l.getD j zXe).name (l.getD i zXe).name
def zJY (l:List zHl)(i:Nat):Bool:=zAbq (l.getD i zXe).name && !zOg (l.getD i zXe).name [118,97,114] && !decide ((l.getD i zXe).size<0) && !decide ((l.getD i zXe).size > 1048576)&&(List.range l.length).all (zSk l i)
def zPL (l:List zHl):Bool:=decide (l.length<=64)&&zRw (l.map (·.name))&&(List.range l.length).all (zJY l)
theorem zUa {α:Type}{l:List α}{i:Nat}{x z:α}(h:l[i]? = some x):l.getD i z=x:=by simp[List.getD,h]
theorem zAgA {l:List UInt8}(h:zAbq l=true):l.length<=64:=by
 unfold zAbq at h
 simp only[zAk,decide_eq_true_eq]at h
 exact h.1.2
theorem zYx:zBE prg zBn=some (zEg ⟨[],List.replicate 32 0,0⟩).toArray:=by kernel_rfl
theorem zAfk:(⟨[],List.replicate 32 0,0⟩:zHl).wf:=⟨by simp,by simp,by simp⟩
set_option maxHeartbeats 4000000 in
theorem zAfl {P:zA2}{H:zAw}{m:Man}{vd vc vf:Value}(hv:zMf P H m vd vc vf) :
  zAz prg zF9 [.agg (zGI m vd vc vf).toArray] H λu H'=>u = .bool (zPL m.files)/\Keep zAM H H':=by
 apply zJ6
 unfold zIb
 simp only[zB1,zBa,zBf,zAg,zAu,zAa]
 generalize hH1:H.push (.cells (zGI m vd vc vf).toArray zAi (0,0))=H1
 have k1:Keep zAM H H1:=by rw[<- hH1];exact Keep.push
 have a1:At H1 H.size (zGI m vd vc vf):=by rw[<- hH1];exact At.push
 have w:=hv.wf
 have d7:∀ h,Keep zAM H1 h->ld1 h (Ptr H.size 7)=some vf:=λh k=>(zHm (a1.keep k id) w).2.2
 have hf:=hv.f
 generalize hL:m.files=l at *
 have hlen:=hf.len
 rw[zAf]at hlen
 have hwl:∀ f∈l,f.wf:=λf hf=>w.files f (by rw[hL];exact hf)
 have e64:zAC .no .gtr (.int .i64 (l.length:Nat)) (.int .i64 64)=some (.bool (decide (l.length > 64))):=zAbr (m:=64)
 rw[d7 _ Keep.refl,zAa,hlen,zAa,e64,zAa]
 cases h64:decide (l.length > 64)
 rotate_left
 ·simp only[zBQ,zAO,zAc,if_false,zAv,if_true,zAa,zAl]
  exact⟨by unfold zPL;rw[decide_eq_false (show ¬ l.length<=64 by have:=of_decide_eq_true h64;omega)];rfl,k1⟩
 have hl:l.length<=64:=by have:=of_decide_eq_false h64;omega
 refine zBQ.2 ?_
 rw[zAO,if_pos rfl,zAa]
 refine zAJ (zAaP (hf.keep k1 λ_ _=>id) hwl (by omega)) ?_
 rintro _ h3 ⟨rfl,k3⟩
 have k13:=k1.trans k3
 have hfo:zPL l=(zRw (l.map (·.name))&&(List.range l.length).all (zJY l)):=by unfold zPL;rw[decide_eq_true hl];rfl
 rw[zA8,zAa]
 cases hr:zRw (l.map (·.name))
 ·simp only[zAd,zAv,zAb,if_false,if_true,zAa,zAl]
  exact⟨by rw[hfo,hr];rfl,k13⟩
 rw[hr,zBh]at hfo
 rw[zAe,zAv,if_neg (by decide),zAa,zAl,if_neg (by decide)]
 refine zNW (λ_ h=>(List.range l.length).all (zJY l)=true/\Keep zAM H h) (λk hk=>?_) ?_
 rotate_left
 ·rintro _ h ⟨h1,h2⟩
  exact⟨by rw[hfo,h1],h2⟩
 rw[d7 _ k3,zAa,hlen,zAa]
 refine zKa (λu h=>∃ i:Nat,i<=l.length/\u = .int .i64 (i:Nat)/\(List.range i).all (zJY l)=true/\Keep zAM h3 h) (λu _=>match u with | .int _ t=>l.length-t.toNat|_=>0) ⟨0,zAA _,rfl,rfl,Keep.refl⟩ ?_
 rintro _ h ⟨i,hi,rfl,hall,kh⟩ kk hkk
 rw[zOC,zAa,zAl]
 have k0h:=k13.trans kh
 by_cases hlt:i<l.length
 rotate_left
 ·rw[if_neg (by simpa using hlt)]
  obtain rfl:i=l.length:=by omega
  exact hk _ _ ⟨hall,k0h⟩
 rw[if_pos (by simpa using hlt)]
 have hg:l[i]? = some l[i]:=zAj hlt
 have hgd:=zUa (z:=zXe) hg
 have hfoi:zJY l i=(zAbq l[i].name && !zOg l[i].name [118,97,114] && !decide (l[i].size<0) && !decide (l[i].size > 1048576)&&(List.range l.length).all (zSk l i)):=by unfold zJY;rw[hgd]
 have hap:∀ j,zSk l i j=(decide (i=j) || !zOg (l.getD j zXe).name l[i].name):=λj=>by unfold zSk;rw[hgd]
 have hwf:=hwl _ (zAG hlt)
 generalize l[i]=f at *
 refine J4_i (λ_ _ _ _ h'=>zJY l i=true/\Keep zAM h3 h') (λk9 hk9=>?_) ?_
 rotate_left
 ·rintro _ _ _ _ h' ⟨h1,h2⟩
  rw[zBV (by omega),zAa]
  exact hkk _ _ ⟨i+1,by omega,rfl,zP7 hall h1,h2⟩ (by show l.length-(i+1)<l.length-i;omega)
 obtain⟨b,o,hix,hpt,_⟩:=(hf.keep k0h λ_ _=>id).at (i:=i) (x:=zEg f) (by rw[zAp,hg];rfl)
 rw[hix .i64,zAa,hpt.agg (zDN hwf),zAa]
 simp only[zYx,zBa]
 generalize hH11:h.push (.cells (zEg ⟨[],List.replicate 32 0,0⟩).toArray zBn (0,0))=h11
 have k11:Keep zAM h h11:=by rw[<- hH11];exact Keep.push
 have a11:At h11 h.size (zEg ⟨[],List.replicate 32 0,0⟩):=by rw[<- hH11];exact At.push
 obtain⟨h12,st12,a12,k12⟩:=a11.st (n:=34) (ds:=zEg f) (zDN zAfk) (zDN hwf) zMQ
 have gh:=kh.1
 have k312:Keep zAM h3 h12:=(kh.trans k11).fresh k12 λb hb=>by omega
 have dn:∀ h',Keep zAM h12 h'->ld1 h' (Ptr h.size 0)=some (str f.name):=λh' k'=>(a12.keep k' id).ld rfl
 have dsz:∀ h',Keep zAM h12 h'->ld1 h' (Ptr h.size 33)=some (.int .i64 f.size):=λh' k'=>(a12.keep k' id).ld (by
  show(zEg f)[33]? = _
  unfold zEg
  rw[zC1,zBb (by simp[hwf.sum])]
  simp[hwf.sum])
 have svar:(Value.string ⟨#[118,97,114]⟩)=str [118,97,114]:=rfl
 have bad:∀ h',Keep zAM h12 h'->zJY l i=false->(Value.bool false = .bool (zPL l)/\Keep zAM H h'):=λh' k' hb=>⟨by rw[hfo,zRB hlt hb],(k13.trans k312).trans k'⟩
 rw[st12,zAV]
 simp only[zBf,zAg,zAu,zAa]
 rw[dn _ Keep.refl,zAa]
 refine zAJ zYw ?_
 rintro _ h13 ⟨rfl,k13'⟩
 rw[zA8,zAa]
 cases q1:zAbq f.name
 ·simp only[zAd,zBQ,zAO,zAT,zAc,if_false,zAv,if_true,zAa,zAl]
  exact bad _ k13' (by rw[hfoi,q1];rfl)
 rw[zAe]
 refine zBQ.2 ?_
 rw[zAO,if_pos rfl,dn _ k13',zAa,svar]
 refine zAJ (zAcO (by simp)) ?_
 rintro _ h15 ⟨rfl,k15⟩
 have k1215:=k13'.trans k15
 rw[zAv,if_neg (by decide),zAa]
 cases q2:zOg f.name [118,97,114]
 rotate_left
 ·simp only[zBQ,zAO,zAT,zAc,if_false,zAv,if_true,zAa,zAl]
  exact bad _ k1215 (by rw[hfoi,q1,q2];rfl)
 refine zBQ.2 ?_
 rw[zAO,if_pos rfl,dsz _ k1215,zAa,ltI,zAa]
 show Mpu (zBH (.bool false) (.bool true) _) _
 rw[zAv,if_neg (by decide),zAa]
 cases q3:decide (f.size<0)
 rotate_left
 ·simp only[zBQ,zAO,zAT,zAc,if_false,zAv,if_true,zAa,zAl]
  exact bad _ k1215 (by rw[hfoi,q1,q2,q3];rfl)
 refine zBQ.2 ?_
 rw[zAO,if_pos rfl,dsz _ k1215,zAa,gtI,zAa]
 show Mpu (zBH (.bool false) (.bool true) _) _
 rw[zAv,if_neg (by decide),zAa]
 cases q4:decide (f.size > 1048576)
 rotate_left
 ·simp only[zBQ,zAO,zAT,zAc,if_false,zAv,if_true,zAa,zAl]
  exact bad _ k1215 (by rw[hfoi,q1,q2,q3,q4];rfl)
 rw[zAl,if_neg (by decide),d7 _ (k3.trans (k312.trans k1215)),zAa,hlen,zAa]
 have hfoi2:zJY l i=(List.range l.length).all (zSk l i):=by rw[hfoi,q1,q2,q3,q4];rfl
 refine zKa (λu h'=>∃ j:Nat,j<=l.length/\u = .int .i64 (j:Nat)/\(List.range j).all (zSk l i)=true/\Keep zAM h15 h') (λu _=>match u with | .int _ t=>l.length-t.toNat|_=>0) ⟨0,zAA _,rfl,rfl,Keep.refl⟩ ?_
 rintro _ g ⟨j,hj,rfl,hallj,kg⟩ k21 hk21
 rw[zOC,zAa,zAl]
 have k12g:=k1215.trans kg
 by_cases hltj:j<l.length
 rotate_left
 ·rw[if_neg (by simpa using hltj)]
  obtain rfl:j=l.length:=by omega
  exact hk9 _ _ _ _ _ ⟨by rw[hfoi2,hallj],k312.trans k12g⟩
 rw[if_pos (by simpa using hltj)]
 have hgj:l[j]? = some l[j]:=zAj hltj
 have hwj:=hwl _ (zAG hltj)
 have hapj:=hap j
 rw[zUa hgj]at hapj
 generalize l[j]=f2 at *
 obtain⟨b2,o2,hix2,hpt2,_⟩:=(hf.keep ((k13.trans k312).trans k12g) λ_ _=>id).at (i:=j) (x:=zEg f2) (by rw[zAp,hgj];rfl)
 rw[hix2 .i64,zAa,hpt2.agg (zDN hwj),zAa]
 generalize hH23:g.push (.cells (zEg ⟨[],List.replicate 32 0,0⟩).toArray zBn (0,0))=h23
 have k23:Keep zAM g h23:=by rw[<- hH23];exact Keep.push
 have a23:At h23 g.size (zEg ⟨[],List.replicate 32 0,0⟩):=by rw[<- hH23];exact At.push
 obtain⟨h24,st24,a24,k24⟩:=a23.st (n:=34) (ds:=zEg f2) (zDN zAfk) (zDN hwj) zMQ
 have gg:=kg.1
 have k1524:Keep zAM h15 h24:=(kg.trans k23).fresh k24 λb hb=>by omega
 have dn2:ld1 h24 (Ptr g.size 0)=some (str f2.name):=a24.ld rfl
 rw[st24,zAV,zAmp,zAa]
 cases q5:decide (i=j)
 ·refine zBQ.2 ?_
  rw[zAd,zAO,if_pos rfl,dn2,zAa,dn _ (k1215.trans k1524),zAa]
  have:=zAgA q1
  refine zAJ (zAcO (by omega)) ?_
  rintro _ h26 ⟨rfl,k26⟩
  rw[zAv,if_pos rfl,zAa,zAl]
  cases q6:zOg f2.name f.name
  ·rw[if_neg (by decide),zBV (by omega),zAa]
   exact hk21 _ _ ⟨j+1,by omega,rfl,zP7 hallj (by rw[hapj,q5,q6];rfl),k1524.trans k26⟩ (by show l.length-(j+1)<l.length-j;omega)
  ·rw[if_pos rfl]
   exact bad _ (k1215.trans (k1524.trans k26)) (by rw[hfoi2];exact zRB hltj (by rw[hapj,q5,q6];rfl))
 ·refine zBQ.2 ?_
  rw[zAe,zAO,if_neg (by decide)]
  show Mpu (zBH (.bool false) undef (.bool false)) _
  rw[zAv,if_neg (by decide),zAa,zAl,if_neg (by decide),zBV (by omega),zAa]
  exact hk21 _ _ ⟨j+1,by omega,rfl,zP7 hallj (by rw[hapj,q5];rfl),k1524⟩ (by show l.length-(j+1)<l.length-j;omega)
def zFO (m:Man):Bool:=zYr m&&zPL m.files
theorem zTe {P:zA2}{H:zAw}{m:Man}{vd vc vf:Value}(hv:zMf P H m vd vc vf)(hd:m.deps.length<=1099511627776)(hc:m.conf.length<=1099511627776)(hO:zQR H) :
  zAz prg zDv [.agg (zGI m vd vc vf).toArray] H λu H'=>u = .bool (zFO m)/\Keep zAM H H':=by
 apply zJ5
 unfold zIa
 simp only[zB1,zBa]
 generalize hH1:H.push (.cells (zGI m vd vc vf).toArray zAi (0,0))=H1
 have k1:Keep zAM H H1:=by rw[<- hH1];exact Keep.push
 have a1:At H1 H.size (zGI m vd vc vf):=by rw[<- hH1];exact At.push
 have w:=hv.wf
 rw[zBf,zAa,zAu,zDd a1,zAa]
 refine zAJ (zZn w.name) ?_
 rintro _ h2 ⟨rfl,k2⟩
 have a2:=a1.keep k2 id
 have k12:=k1.trans k2
 unfold zFO zYr
 cases h1:zJi m.name
 ·simp only[zA8,zAe,zAd,zAO,zAT,zAv,zAl,zAa,if_true,if_false,zAb,zAc,decide_true,decide_false,reduceCtorEq,zBQ,zEH,zEI,zEE,zEF,zEG,zBq,zA9,zA1]
  exact⟨by trivial,k12⟩
 simp only[zBf,zAg,zI7 a2 w,zA8,zAe,zAd,zAO,zAT,zAv,zAl,zAa,if_true,if_false,zAb,zAc,decide_true,decide_false,reduceCtorEq,zBQ,zEH,zEI,zEE,zEF,zEG,zBq,zA9]
 refine zAJ (zPY w.ver) ?_
 rintro _ h3 ⟨rfl,k3⟩
 have a3:=a2.keep k3 id
 have k13:=k12.trans k3
 cases h2:zGl m.ver
 ·simp only[zA8,zAe,zAd,zAO,zAT,zAv,zAl,zAa,if_true,if_false,zAb,zAc,decide_true,decide_false,reduceCtorEq,zBQ,zEH,zEI,zEE,zEF,zEG,zBq,zA9,zA1,zB8]
  exact⟨by trivial,k13⟩
 obtain⟨g5,g6,g7⟩:=zHm a3 w
 simp only[zBf,zAg,zT3 a3 w,g5,zA8,zAe,zAd,zAO,zAT,zAv,zAl,zAa,if_true,if_false,zAb,zAc,decide_true,decide_false,reduceCtorEq,zBQ,zEH,zEI,zEE,zEF,zEG,zBq,zA9]
 refine zAJ (zAgr (hv.d.keep k13 λ_ _=>id) w.deps (hO.keep k13 λ_ h=>h.elim) hd) ?_
 rintro _ h4 ⟨rfl,k4⟩
 have a4:=a3.keep k4 id
 have k14:=k13.trans k4
 cases h3:zOd m.name m.deps
 ·simp only[zA8,zAe,zAd,zAO,zAT,zAv,zAl,zAa,if_true,if_false,zAb,zAc,decide_true,decide_false,reduceCtorEq,zBQ,zEH,zEI,zEE,zEF,zEG,zBq,zA9,zA1,zB8]
  exact⟨by trivial,k14⟩
 obtain⟨g5,g6,g7⟩:=zHm a4 w
 simp only[zBf,zAg,zT3 a4 w,g6,zA8,zAe,zAd,zAO,zAT,zAv,zAl,zAa,if_true,if_false,zAb,zAc,decide_true,decide_false,reduceCtorEq,zBQ,zEH,zEI,zEE,zEF,zEG,zBq,zA9]
 refine zAJ (zAgr (hv.c.keep k14 λ_ _=>id) w.conf (hO.keep k14 λ_ h=>h.elim) hc) ?_
 rintro _ h5 ⟨rfl,k5⟩
 have a5:=a4.keep k5 id
 have k15:=k14.trans k5
 cases h4:zOd m.name m.conf
 ·simp only[zA8,zAe,zAd,zAO,zAT,zAv,zAl,zAa,if_true,if_false,zAb,zAc,decide_true,decide_false,reduceCtorEq,zBQ,zEH,zEI,zEE,zEF,zEG,zBq,zA9,zA1,zB8]
  exact⟨by trivial,k15⟩
 simp only[zT3 a5 w,zA8,zAe,zAd,zAO,zAT,zAv,zAl,zAa,if_true,if_false,zAb,zAc,decide_true,decide_false,reduceCtorEq,zBQ,zEH,zEI,zEE,zEF,zEG,zBq,zA9]
 refine zAJ (zAfl (hv.keep k15 λ_ _=>id)) ?_
 rintro _ h6 ⟨rfl,k6⟩
 simp only[zA8,zAe,zAd,zAO,zAT,zAv,zAl,zAa,if_true,if_false,zAb,zAc,decide_true,decide_false,reduceCtorEq,zBQ,zEH,zEI,zEE,zEF,zEG,zBq,zA9,zBh]
 exact⟨by trivial,k15.trans k6⟩
end Go.Proofs.YticdfkoncnnmmaaGreatDoor
