import Derived.Test.YticdfkoncnnmmaaGreatDoorG7
import Derived.Test.YticdfkoncnnmmaaGreatDoorG5
import Derived.MapKept
import Derived.Maps.RangeRun
set_option linter.unusedSimpArgs false
set_option linter.unusedVariables false
set_option maxRecDepth 100000
namespace Go.Proofs.YticdfkoncnnmmaaGreatDoor
open Go.X Go.X.Diff
theorem zAeg {c:Array Value}{o j n:Nat}{x:List Value}{w:Value}(hx:x.length=n)(hle:o+n<=c.size)(hj:j<n)(hc:(c.toList.drop o).take n=x):spl c o (x.set j w).toArray=c.setIfInBounds (o+j) w:=by
 apply Array.ext'
 rw[Array.toList_setIfInBounds]
 unfold spl
 show List.take o c.toList++x.set j w++List.drop (o+(x.set j w).toArray.size) c.toList=_
 have hsz:(x.set j w).toArray.size=n:=by simp[hx]
 rw[hsz]
 have e:c.toList=List.take o c.toList++(x++List.drop (o+n) c.toList):=by
  rw[<- hc,<- List.drop_drop,List.take_append_drop,List.take_append_drop]
 have hlt:(List.take o c.toList).length=o:=by rw[List.length_take];simp;omega
 conv=>rhs;rw[e]
 rw[List.set_append_right _ _ (by rw[hlt];omega),hlt,Nat.add_sub_cancel_left,List.set_append_left _ _ (by omega),List.append_assoc]
theorem _root_.Go.X.BufE.st {n:Nat}{F:Nat->Prop}{H:zAd}{v:Value}{xs:List (List Value)}(h:BufE n F H v xs){i j:Nat}{x:List Value}(hi:xs[i]? = some x)(hj:j<n){w:Value}(hw:w.oneCell'=true) :
  ∃ b o H',(∀ k,ixS n v (.int k i)=some (Ptr b o))/\Pt H b o x/\st1 H (Ptr b (o+j)) w=some H'/\BufE n F H' v (xs.set i (x.set j w))/\Keep F H H':=by
 obtain⟨hlt,hxe⟩:=List.getElem?_eq_some_iff.1 hi
 have hxl:x.length=n:=h.1 x (by rw[<- hxe];exact List.getElem_mem _)
 have hx1:∀ c ∈ x,c.oneCell'=true:=h.2.1 x (by rw[<- hxe];exact List.getElem_mem _)
 have h1:∀ c ∈ x.set j w,c.oneCell'=true:=fun c hc=>by
  rcases List.mem_or_eq_of_mem_set hc with hc | rfl
  ·exact hx1 c hc
  ·exact hw
 obtain⟨p,H',hip,hst,hb,hk⟩:=h.set hlt (x:=x.set j w) (by simp[hxl]) h1
 obtain⟨b,o,hib,hpt,_⟩:=h.sl.at hi
 have hpe:p=Ptr b o:=Option.some.inj ((hip .i64).symm.trans (hib .i64))
 subst hpe
 refine⟨b,o,H',hib,hpt,?_,hb,hk⟩
 obtain⟨c,T,f,hbb,hle,hc⟩:=hpt
 simp only[stN]at hst
 rw[if_pos (by simp[hxl])]at hst
 unfold stA at hst
 rw[hbb]at hst
 simp only at hst
 split at hst
 ·rename_i hcnd
  obtain⟨c1,c2,c3⟩:=hcnd
  simp only[st1,hbb]
  have hth:zRB f (o+j) 1=true:=by
   unfold zRB at c2 ⊢
   simp only[List.size_toArray,List.length_set,hxl,Bool.or_eq_true,decide_eq_true_eq]at c2 ⊢
   omega
  rw[if_pos ⟨by omega,hth,hw⟩,<- hst]
  rw[hxl]at hc hle
  rw[zAeg hxl hle hj hc]
 ·cases hst
theorem zUc {P:Program}{T:TypeId}{H:zAd}{k:Value->zAd->Prop}(hk:k (.map (some H.size)) (H.push (.map #[] 0))):zNt P (Instr.makeMap T none) H k:=fun w hw=>by
 subst hw
 refine⟨.map (some w.heap.size),{ w with heap:=w.heap.push (.map #[] 0) },?_,⟨rfl,rfl,rfl,zDL.push⟩,hk⟩
 simp[Instr.makeMap]
def zLX (H:zAd)(q:Nat)(es:List (Value×Value)):Prop:=∃ (arr:Array MapEntry) (clock:Nat),H[q]? = some (.map arr clock)/\arr.toList.map (fun e=>(e.key,e.val))=es/\(∀ e ∈ arr.toList,e.born<clock)/\(arr.toList.map (·.born)).Nodup
theorem zLX.keep {H H':zAd}{q:Nat}{es:List (Value×Value)}{S:Nat->Prop}(h:zLX H q es)(k:Keep S H H')(hs:¬ S q):zLX H' q es:=by
 obtain⟨a,c,h1,h2⟩:=h
 exact⟨a,c,k.at h1 hs,h2⟩
theorem zLX.new {H:zAd}:zLX (H.push (.map #[] 0)) H.size []:=⟨#[],0,zAR,rfl,(fun e h=>by cases h),List.nodup_nil⟩
open Go.MapKept
def zAgL (P:Program)(mty:TypeId)(d:TypeDesc)(z:Value):Prop:=∃ kt et,P.underlying mty=some (.map kt et)/\P.underlying kt=some d/\∀ w:World,(zeroValue et).run P w = .ok z w
def zAeh (ok:Bool)(v:Value)(b:Bool):Value:=if ok then .tuple #[v,.bool b] else v
theorem zR8 {arr:Array MapEntry}{es:List (Value×Value)}(h:arr.toList.map (fun e=>(e.key,e.val))=es){j:Nat}{e:MapEntry}(hj:arr.toList[j]? = some e):es[j]? = some (e.key,e.val):=by
 rw[<- h,List.getElem?_map,hj];rfl
theorem zWu {P:Program}{mty:TypeId}{d:TypeDesc}{z key:Value}{ok:Bool}{H:zAd}{q:Nat}{es:List (Value×Value)}{k:Value->zAd->Prop}(hT:zAgL P mty d z)(hm:zLX H q es)(hks:∀ x ∈ es,IsKey d x.1)(hk:IsKey d key)
  (h1:∀ v,(key,v) ∈ es->k (zAeh ok v true) H) (h2:(∀ x ∈ es,x.1≠key)->k (zAeh ok z false) H):zNt P (Instr.lookup mty (.map (some q)) key ok) H k:=fun w hw=>by
 subst hw
 obtain⟨kt,et,t1,t2,t3⟩:=hT
 obtain⟨arr,clock,hb,he,hbn,hnd⟩:=hm
 have hks':∀ x ∈ arr.toList,IsKey d x.key:=fun x hx=>hks (x.key,x.val) (by rw[<- he];exact List.mem_map.2 ⟨x,hx,rfl⟩)
 rcases findNow_spec hk arr.toList 0 hks' with ⟨f1,f2⟩ | ⟨j,e,f1,f2,f3⟩
 ·refine⟨zAeh ok z false,w,?_,zHd.rfl' _,h2 fun x hx=>?_⟩
  ·cases ok <;> simp[Instr.lookup,run_underlying t1,Go.MapKept.run_getObj_map hb,run_checkKey t2 hk,run_findKey t2 f1,t3,Result.andThen,zAeh]
  ·rw[<- he]at hx
   obtain⟨y,hy,rfl⟩:=List.mem_map.1 hx
   exact f2 y hy
 ·refine⟨zAeh ok e.val true,w,?_,zHd.rfl' _,h1 _ ?_⟩
  ·cases ok <;> simp[Instr.lookup,run_underlying t1,Go.MapKept.run_getObj_map hb,run_checkKey t2 hk,run_findKey t2 f1,Result.andThen,zAeh]
  ·have:=zR8 he f2
   rw[f3]at this
   exact List.mem_of_getElem? this
theorem zQ4 {arr:Array MapEntry}{j:Nat}{key val:Value}:(arr.modify j fun e=>{ e with key:=key,val:=val }).toList.map (·.born)=arr.toList.map (·.born):=by
 apply List.ext_getElem?
 intro i
 rw[List.getElem?_map,List.getElem?_map,Array.toList_modify,List.getElem?_modify]
 by_cases h:j=i
 ·subst h
  cases arr.toList[j]? <;> simp
 ·simp[h]
theorem zWv {P:Program}{mty:TypeId}{d:TypeDesc}{z key val:Value}{H:zAd}{q:Nat}{es:List (Value×Value)}{k:Value->zAd->Prop}(hT:zAgL P mty d z)(hm:zLX H q es)(hks:∀ x ∈ es,IsKey d x.1)(hk:IsKey d key)
  (h1:∀ j v H',es[j]? = some (key,v)->zLX H' q (es.set j (key,val))->Keep (· = q) H H'->k undef H') (h2:∀ H',(∀ x ∈ es,x.1≠key)->zLX H' q (es++[(key,val)])->Keep (· = q) H H'->k undef H'):Msu P (Instr.mapUpdate mty (.map (some q)) key val) H k:=fun w hw=>by
 subst hw
 obtain⟨kt,et,t1,t2,t3⟩:=hT
 obtain⟨arr,clock,hb,he,hbn,hnd⟩:=hm
 have hks':∀ x ∈ arr.toList,IsKey d x.key:=fun x hx=>hks (x.key,x.val) (by rw[<- he];exact List.mem_map.2 ⟨x,hx,rfl⟩)
 have hsol:∀ o:Obj,(∀ ds,o ≠ .deferred ds)->zDL w.heap (w.heap.setIfInBounds q o):=fun o ho i ds hi=>by
  rw[Array.getElem?_setIfInBounds]
  split
  ·rename_i e;subst e;rw[hb]at hi;cases hi
  ·exact hi
 rcases findNow_spec hk arr.toList 0 hks' with ⟨f1,f2⟩ | ⟨j,e,f1,f2,f3⟩
 ·refine⟨{ w with heap:=w.heap.setIfInBounds q (.map (arr.push { key,val,born:=clock }) (clock+1)) },?_,⟨rfl,rfl,rfl,hsol _ (fun _ e=>by cases e)⟩,h2 _ (fun x hx=>?_) ⟨_,_,(heap_set hb).1,?_,?_,?_⟩ (Keep.set rfl)⟩
  ·simp[Instr.mapUpdate,run_underlying t1,Go.MapKept.run_getObj_map hb,run_checkKey t2 hk,run_findKey t2 f1,Go.MapKept.run_setObj_map _ hb,Result.andThen]
  ·rw[<- he]at hx
   obtain⟨y,hy,rfl⟩:=List.mem_map.1 hx
   exact f2 y hy
  ·rw[Array.toList_push,List.map_append,he];rfl
  ·intro x hx
   rw[Array.toList_push]at hx
   rcases List.mem_append.1 hx with hx | hx
   ·have:=hbn x hx;omega
   ·rw[List.mem_singleton.1 hx];show clock<clock+1;omega
  ·rw[Array.toList_push,List.map_append,List.nodup_append]
   refine⟨hnd,by simp,fun a ha b hb' e=>?_⟩
   obtain⟨x,hx,rfl⟩:=List.mem_map.1 ha
   have hb'':b=clock:=by simpa using hb'
   have:=hbn x hx;omega
 ·have hj:arr[j]? = some e:=by simpa using f2
  have hes:=zR8 he f2
  rw[f3]at hes
  refine⟨{ w with heap:=w.heap.setIfInBounds q (.map (arr.modify j fun e=>{ e with key:=key,val:=val }) clock) },?_,⟨rfl,rfl,rfl,hsol _ (fun _ e=>by cases e)⟩,h1 j e.val _ hes ⟨_,_,(heap_set hb).1,?_,?_,?_⟩ (Keep.set rfl)⟩
  ·simp[Instr.mapUpdate,run_underlying t1,Go.MapKept.run_getObj_map hb,run_checkKey t2 hk,run_findKey t2 f1,hj,f3,run_keyThatStays hk,Go.MapKept.run_setObj_map _ hb,Result.andThen]
  ·rw[<- he]
   apply List.ext_getElem?
   intro i
   rw[Array.toList_modify,List.getElem?_map,List.getElem?_modify,List.getElem?_set]
   by_cases hij:j=i
   ·subst hij
    obtain⟨hlt,_⟩:=List.getElem?_eq_some_iff.1 f2
    have hlt':j<arr.size:=by simpa using hlt
    simp[f2,hlt']
   ·rw[if_neg hij]
    simp[hij]
  ·intro x hx
   have:x.born ∈ arr.toList.map (·.born):=by rw[<- zQ4 (j:=j) (key:=key) (val:=val)];exact List.mem_map.2 ⟨x,hx,rfl⟩
   obtain⟨y,hy,e⟩:=List.mem_map.1 this
   rw[<- e];exact hbn y hy
  ·rw[zQ4];exact hnd
def zXp (H:zAd)(r q:Nat)(es:List (Value×Value))(vis:List Nat):Prop:=∃ (arr:Array MapEntry) (clock:Nat) (seen:Array Nat),H[q]? = some (.map arr clock)/\arr.toList.map (fun e=>(e.key,e.val))=es/\(∀ e ∈ arr.toList,e.born<clock)/\(arr.toList.map (·.born)).Nodup /\
 H[r]? = some (.mapIter (some q) clock seen clock)/\r≠q/\vis.Nodup/\(∀ i ∈ vis,i<arr.size)/\(∀ i (h:i<arr.size),arr[i].born ∈ seen↔i ∈ vis)/\seen.toList=vis.map fun i=>(arr[i]?.map (·.born)).getD 0
theorem zXp.keep {H H':zAd}{r q:Nat}{es:List (Value×Value)}{vis:List Nat}{S:Nat->Prop}(h:zXp H r q es vis)(k:Keep S H H')(hr:¬ S r)(hq:¬ S q):zXp H' r q es vis:=by
 obtain⟨arr,clock,seen,h1,h2,h3,h4,h5,h6⟩:=h
 exact⟨arr,clock,seen,k.at h1 hq,h2,h3,h4,k.at h5 hr,h6⟩
theorem zXp.map {H:zAd}{r q:Nat}{es:List (Value×Value)}{vis:List Nat}(h:zXp H r q es vis):zLX H q es:=by
 obtain⟨arr,clock,seen,h1,h2,h3,h4,_⟩:=h
 exact⟨arr,clock,h1,h2,h3,h4⟩
theorem zAbC {P:Program}{T k' e:TypeId}{H:zAd}{q:Nat}{es:List (Value×Value)}{k:Value->zAd->Prop}(ht:P.underlying T=some (.map k' e))(hm:zLX H q es)(hk:∀ H',zXp H' H.size q es []->Keep (fun _=>False) H H'->k (Ptr H.size 0) H'):zNt P (Instr.range T (.map (some q))) H k:=fun w hw=>by
 subst hw
 obtain⟨arr,clock,hb,he,hbn,hnd⟩:=hm
 refine⟨_,_,run_range_map w T k' e q arr clock ht hb,⟨rfl,rfl,rfl,zDL.push⟩,hk _ ⟨arr,clock,#[],zP9 hb,he,hbn,hnd,zAR,?_,List.nodup_nil,(fun i h=>by cases h),(fun i h=>by simp),rfl⟩ Keep.push⟩
 have:=lt_of hb;omega
theorem zAei {P:Program}{T:TypeId}{H:zAd}{r q:Nat}{es:List (Value×Value)}{vis:List Nat}{k:Value->zAd->Prop}(hI:zXp H r q es vis)
  (h1:∀ (i:Nat) (x:Value×Value),es[i]? = some x->i ∉ vis->∀ H',zXp H' r q es (vis++[i])->Keep (· = r) H H'->k (.tuple #[.bool true,x.1,x.2]) H') (h2:(∀ i,i<es.length->i ∈ vis)->k (.tuple #[.bool false]) H) :
  zNt P (Instr.next (Ptr r 0) false T) H k:=fun w hw=>by
 subst hw
 obtain⟨arr,clock,seen,hb,he,hbn,hnd,hr,hrq,hv,hvl,hs,hsv⟩:=hI
 have hlen:es.length=arr.size:=by rw[<- he];simp
 rcases run_next_at w T r q clock clock seen arr clock hr hb hbn (Nat.le_refl _) with ⟨h0,hrun⟩ | ⟨e,hel,w1,hw1,hrun⟩
 ·refine⟨_,w,hrun,zHd.rfl' _,h2 fun i hi=>?_⟩
  have hi':i<arr.size:=by omega
  refine(hs i hi').1 ?_
  have:¬ arr[i] ∈ leftOf arr seen:=fun hm=>by
   have:=Array.size_pos_of_mem hm;omega
  unfold leftOf at this
  rw[Array.mem_filter]at this
  simpa using this
 ·have hem:e ∈ leftOf arr seen:=by simpa using hel
  unfold leftOf at hem
  rw[Array.mem_filter]at hem
  obtain⟨hea,hns⟩:=hem
  obtain⟨i,hi,rfl⟩:=Array.getElem_of_mem hea
  have hnv:i ∉ vis:=fun h=>by
   have:=(hs i hi).2 h
   simp[this]at hns
  have hh:(w1.heap:zAd)=w.heap:=by rcases hw1 with rfl | rfl <;> rfl
  have hsame:zHd w w1:=by
   rcases hw1 with rfl | rfl
   ·exact zHd.rfl' _
   ·exact⟨rfl,rfl,rfl,zDL.rfl'⟩
  have hset:(ChangeMaps.setBlock w1 r (.mapIter (some q) clock (seen.push arr[i].born) clock)).heap=(w.heap:zAd).setIfInBounds r (.mapIter (some q) clock (seen.push arr[i].born) clock):=by
   show(w1.heap:zAd).setIfInBounds r _=_
   rw[hh]
  refine⟨_,_,hrun,⟨hsame.os,hsame.tape,hsame.output,?_⟩,?_⟩
  ·rw[hset]
   intro j ds hj
   rw[Array.getElem?_setIfInBounds]
   split
   ·rename_i e;subst e;rw[hr]at hj;cases hj
   ·exact hj
  ·rw[hset]
   refine h1 i (arr[i].key,arr[i].val) ?_ hnv _ ⟨arr,clock,seen.push arr[i].born,?_,he,hbn,hnd,zAt hr,hrq,?_,?_,?_,by rw[Array.toList_push,hsv,List.map_append];simp[hi]⟩ (Keep.set rfl)
   ·rw[<- he,List.getElem?_map]
    simp[hi]
   ·exact zYy hb hrq
   ·rw[List.nodup_append]
    exact⟨hv,by simp,fun a ha b hb e=>by simp at hb;subst hb;subst e;exact hnv ha⟩
   ·intro j hj
    rcases List.mem_append.1 hj with hj | hj
    ·exact hvl j hj
    ·rw[List.mem_singleton.1 hj];exact hi
   ·intro j hj
    rw[Array.mem_push,hs j hj,List.mem_append,List.mem_singleton]
    refine or_congr Iff.rfl ⟨fun e=>?_,fun e=>by subst e;rfl⟩
    have hp:=List.pairwise_iff_getElem.1 (List.pairwise_map.1 (List.nodup_iff_pairwise_ne.1 hnd))
    have hjl:j<arr.toList.length:=by simpa using hj
    have hil:i<arr.toList.length:=by simpa using hi
    rcases Nat.lt_trichotomy j i with h | h | h
    ·exact absurd e (by simpa using hp j i hjl hil h)
    ·exact h
    ·exact absurd e.symm (by simpa using hp i j hil hjl h)
theorem zAbD {P:Program}{H:zAd}{r q i:Nat}{es:List (Value×Value)}{vis:List Nat}{x:Value×Value}{k:Value->zAd->Prop}(hI:zXp H r q es (vis++[i]))(hx:es[i]? = some x)(hk:k (.tuple #[x.1,x.2]) H):zNt P (Instr.entry (Ptr r 0)) H k:=fun w hw=>by
 subst hw
 obtain⟨arr,clock,seen,hb,he,hbn,hnd,hr,hrq,hv,hvl,hs,hsv⟩:=hI
 have hi:i<arr.size:=hvl i (by simp)
 have hseen:seen=(vis.map fun i=>(arr[i]?.map (·.born)).getD 0).toArray.push arr[i].born:=by
  apply Array.ext'
  rw[hsv,List.map_append,Array.toList_push]
  simp[hi]
 rw[hseen]at hr
 have hxe:x=(arr[i].key,arr[i].val):=by
  rw[<- he,List.getElem?_map]at hx
  simp[hi]at hx
  exact hx.symm
 subst hxe
 exact⟨_,w,run_entry_at w r q clock _ arr clock arr[i] hr hb (by simp) hnd,zHd.rfl' w,hk⟩
def zLz (a b:List UInt8):Bool:=decide (a=b) || (decide ((b++[47]).length<=a.length) && decide (a.take (b++[47]).length=b++[47]))
theorem zZb {H:zAd}{a b:List UInt8}(hb:b.length<=1048576):zAg prg zGy [str a,str b] H fun u H'=>u = .bool (zLz a b)/\Keep (fun _=>False) H H':=by
 apply zLO
 unfold zLo
 have e:=fun q=>zBX (q:=q) (a:=a) (b:=b)
 have s:(Value.string ⟨#[47]⟩)=str [47]:=rfl
 rw[e,zAa,s]
 unfold zLz
 cases h:decide (a=b)
 ·simp only[zAF,zAl,if_true,Bool.false_or]
  rw[zQU (by simp;omega),zAa]
  refine zAk (R:=fun u H'=>u = .bool (decide ((b++[47]).length<=a.length) && decide (a.take (b++[47]).length=b++[47]))/\H=H') ?_ ?_
  ·apply zFX
   unfold zF6
   refine zAk zQV ?_
   rintro _ _ ⟨rfl,rfl⟩
   exact⟨rfl,rfl⟩
  ·rintro _ _ ⟨rfl,rfl⟩
   simp only[zAe,Bool.false_eq_true,if_false,zAa]
   exact⟨by trivial,Keep.refl⟩
 ·simp only[zAF,zAl,Bool.true_eq_false,if_false,zAe,if_true,zAa,Bool.true_or]
  exact⟨by trivial,Keep.refl⟩
def fnL:List UInt8:=[97,98,99,100,101,102,103,104,105,106,107,108,109,110,111,112,113,114,115,116,117,118,119,120,121,122,48,49,50,51,52,53,54,55,56,57,46,95,45]
def zKe (w:List UInt8):Bool:=!decide (w=[]) && !decide (w=[46]) && !decide (w=[46,46]) && decide (zLs fnL (zK2 fnL w)=[])
def zXP (l:List UInt8):Bool:=!decide (l=[]) && decide (l.length<=64) && (zBR 47 l).all zKe
structure FnI (H:zAd)(l:List UInt8)(j:Nat)(h:zAd):Prop where
 a:At h H.size [.bool false]
 ok:((zBR 47 l).take j).all zKe=true
 k:Keep (fun _=>False) H h
theorem FnI.keep {H:zAd}{l:List UInt8}{j:Nat}{h h':zAd}{S:Nat->Prop}(p:FnI H l j h)(k:Keep S h h')(hs:∀ b,S b->H.size<b):FnI H l j h' :=
 ⟨p.a.keep k fun hS=>by have:=hs _ hS;omega,p.ok,p.k.fresh k fun b hb=>by have:=hs b hb;omega⟩
theorem zAej:zAB prg zTK=some [Value.bool false].toArray:=by kernel_rfl
set_option maxHeartbeats 2000000 in
theorem zVj {H:zAd}{l:List UInt8}:zAg prg zMF [str l] H fun u H'=>u = .bool (zXP l)/\Keep (fun _=>False) H H':=by
 apply zN6
 unfold zOG
 simp only[zAej,zAs]
 generalize hH1:H.push (.cells [Value.bool false].toArray zTK (0,0))=H1
 have k1:Keep (fun _=>False) H H1:=by rw[<- hH1];exact Keep.push
 have a1:At H1 H.size [.bool false]:=by rw[<- hH1];exact At.push
 have s1:H1.size=H.size+1:=by rw[<- hH1];simp
 have s0:(Value.string ⟨#[]⟩)=str []:=rfl
 have s47:(Value.string ⟨#[47]⟩)=str [47]:=rfl
 have s46:(Value.string ⟨#[46]⟩)=str [46]:=rfl
 have s446:(Value.string ⟨#[46,46]⟩)=str [46,46]:=rfl
 have sfn:(Value.string ⟨#[97,98,99,100,101,102,103,104,105,106,107,108,109,110,111,112,113,114,115,116,117,118,119,120,121,122,48,49,50,51,52,53,54,55,56,57,46,95,45]⟩)=str fnL:=rfl
 have e0:=fun q=>zBX (q:=q) (a:=l) (b:=[])
 have e64:zAh .no .gtr (.int .i64 (l.length:Nat)) (.int .i64 64)=some (.bool (decide (l.length > 64))):=zAfQ
 rw[s0,s47,s46,s446,sfn,e0,zAa]
 have no:∀ h,At h H.size [.bool false]->Keep (fun _=>False) H h->zXP l=false->Mwr (st1 h (Ptr H.size 0) (.bool false)) fun h4=>Mcl H.size h4 fun h5=>Mpu (ld1 h5 (Ptr H.size 0)) fun r6=>r6 = .bool (zXP l)/\Keep (fun _=>False) H h5:=fun h a kh hf=>by
  obtain⟨h4,st4,a4,k4⟩:=a.st1 (i:=0) (v := .bool false) (by simp) rfl
  rw[st4,zAm]
  refine zSP fun h5 hc=>?_
  have d:ld1 h5 (Ptr H.size 0)=some (.bool false):=(a4.closed hc).ld rfl
  rw[d,zAa]
  exact⟨by rw[hf],zFI (kh.fresh k4 fun b hb=>by omega) hc⟩
 cases hnil:decide (l=[])
 rotate_left
 ·simp only[zAF,zAl,Bool.true_eq_false,if_false,zAe,if_true,zAa,zAc]
  exact no H1 a1 k1 (by unfold zXP;rw[hnil];rfl)
 refine zAF.2 ?_
 rw[zAl,if_pos rfl,zDU,zAa,e64,zAa]
 cases h64:decide (l.length > 64)
 rotate_left
 ·simp only[zAe,if_true,Bool.false_eq_true,if_false,zAa,zAc]
  exact no H1 a1 k1 (by unfold zXP;rw[hnil,decide_eq_false (show ¬ l.length<=64 by have:=of_decide_eq_true h64;omega)];rfl)
 have hl:l.length<=64:=by have:=of_decide_eq_false h64;omega
 have hfo:zXP l=(zBR 47 l).all zKe:=by unfold zXP;rw[hnil,decide_eq_true hl];rfl
 rw[zAe,if_neg (by decide),zAa,zAc,if_neg (by decide)]
 refine zAk zR3 ?_
 rintro _ h5 ⟨qs,qp,qn,rfl,hst,hq,k5⟩
 have g5:=k5.1
 have k05:=k1.trans k5
 have inv0:FnI H l 0 h5:=⟨a1.keep k5 id,rfl,k05⟩
 have hxl:((zBR 47 l).map fun x=>[str x]).length=(zBR 47 l).length:=by simp
 refine range_i (xs:=(zBR 47 l).map fun x=>[str x]) (S:=fun b=>b=qs\/b=qp\/b=qn) (W:=fun b=>b=H.size\/h5.size+2<=b) (St:=zOb qs qp qn l 47)
  (zR2 (by omega)) (fun o o'=>?_) k05.1
  (FnI H l) (fun c h=>c = .ret/\(zBR 47 l).all zKe=false/\At h H.size [.bool false]/\Keep (fun _=>False) H h) inv0
  (fun i h h' hI k=>hI.keep k fun b hb=>?_) (fun c h h' hX k=>?_) (fun b hb=>(hq b hb).2) (fun b hb=>?_) ?_ ?_ ?_
 ·have kp:Keep (fun _=>False) h5 ((h5.push o).push o'):=Keep.push.trans Keep.push
  exact⟨hst.s.keep kp id,hst.p.keep kp id,hst.n.keep kp id,hst.ne⟩
 ·rcases hb with hb | rfl | rfl
  ·have:=hq b hb;omega
  ·omega
  ·omega
 ·obtain⟨rfl,x0,x1,x4⟩:=hX
  have nb:∀ b,(b=qs\/b=qp\/b=qn)\/b=h5.size\/b=h5.size+1->H.size<b:=fun b hb=>by
   rcases hb with hb | rfl | rfl
   ·have:=hq b hb;omega
   ·omega
   ·omega
  exact⟨rfl,x0,x1.keep k fun hb=>by have:=nb _ hb;omega,x4.fresh k fun b hb=>by have:=nb b hb;omega⟩
 ·refine⟨by omega,by omega,fun hbq=>?_⟩
  have:=hq b hbq;omega
 ·intro j x h r hx hI hloop hready K hN hEx
  obtain⟨y,hy,rfl⟩:∃ y,(zBR 47 l)[j]? = some y/\x=[str y]:=by
   rw[List.getElem?_map]at hx
   obtain⟨y,h1,h2⟩:=Option.map_eq_some_iff.1 hx
   exact⟨y,h1,h2.symm⟩
  refine⟨rfl,r,hloop,hready,?_⟩
  have hsz:=lt_of hloop
  generalize hhb:h.setIfInBounds (h5.size+1) (.loop { r with state := .busy })=hb at *
  have kb:Keep (· = h5.size+1) h hb:=by rw[<- hhb];exact Keep.set rfl
  have gb:=kb.1
  have hI:=hI.keep kb fun b hb=>by omega
  have hmem:y ∈ zBR 47 l:=List.mem_of_getElem? hy
  have hyl:=zLu hmem
  have htk:(zBR 47 l).take (j+1)=(zBR 47 l).take j++[y]:=by rw[List.take_add_one,hy];rfl
  have bad:∀ h',Keep (fun _=>False) hb h'->zKe y=false->Mwr (st1 h' (Ptr H.size 0) (.bool false)) fun h21=>K (some Code.ret) h21:=fun h' k' hf=>by
   obtain⟨h12,st12,a12,k12⟩:=(hI.a.keep k' id).st1 (i:=0) (v := .bool false) (by simp) rfl
   rw[st12,zAm]
   have kW:Keep (fun b=>b=H.size\/h5.size+2<=b) hb h12:=(k'.mono fun _ _ h=>h.elim).trans (k12.mono fun b _ h => .inl h)
   exact hEx _ h12 kW ⟨rfl,List.all_eq_false.2 ⟨y,hmem,by simp[hf]⟩,a12,hI.k.fresh kW fun b hb'=>by omega⟩
  have good:∀ h',Keep (fun _=>False) hb h'->zKe y=true->K none h':=fun h' k' hf=>by
   refine hN h' (k'.mono fun _ _ h=>h.elim) ⟨hI.a.keep k' id,?_,hI.k.trans k'⟩
   rw[htk,List.all_append,hI.ok];simp[hf]
  have q0:=fun q=>zBX (q:=q) (a:=y) (b:=[])
  have q1:=fun q=>zBX (q:=q) (a:=y) (b:=[46])
  have q2:=fun q=>zBX (q:=q) (a:=y) (b:=[46,46])
  show Mpu (zAh .no .eql (str y) (str [])) _
  rw[q0,zAa]
  cases p0:decide (y=[])
  rotate_left
  ·simp only[zAF,zAl,Bool.true_eq_false,if_false,zAe,if_true,zAa,zAc]
   exact bad hb Keep.refl (by unfold zKe;rw[p0];rfl)
  refine zAF.2 ?_
  rw[zAl,if_pos rfl]
  show Mpu (zAh .no .eql (str y) (str [46])) _
  rw[q1,zAa]
  cases p1:decide (y=[46])
  rotate_left
  ·simp only[zAF,zAl,Bool.true_eq_false,Bool.false_eq_true,if_false,zAe,if_true,zAa,zAc]
   exact bad hb Keep.refl (by unfold zKe;rw[p0,p1];rfl)
  rw[zAe,if_neg (by decide),zAa]
  refine zAF.2 ?_
  rw[zAl,if_pos rfl]
  show Mpu (zAh .no .eql (str y) (str [46,46])) _
  rw[q2,zAa]
  cases p2:decide (y=[46,46])
  rotate_left
  ·simp only[zAF,zAl,Bool.true_eq_false,Bool.false_eq_true,if_false,zAe,if_true,zAa,zAc]
   exact bad hb Keep.refl (by unfold zKe;rw[p0,p1,p2];rfl)
  rw[zAe,if_neg (by decide),zAa]
  refine zAF.2 ?_
  rw[zAl,if_pos rfl]
  show zAp prg zEY [str y,str fnL] hb _
  refine zAk (zYI (cs:=fnL) (by decide) (by decide) (by decide) (by omega)) ?_
  rintro _ h19 ⟨rfl,k19⟩
  have q3:zAh .no .neq (str (zLs fnL (zK2 fnL y))) (str [])=some (.bool (!decide (zLs fnL (zK2 fnL y)=[]))):=zSL
  rw[q3,zAa]
  show Mpu (zAC (.bool false) (.bool true) (.bool (!decide (zLs fnL (zK2 fnL y)=[])))) _
  rw[zAe,if_neg (by decide),zAa,zAc]
  have hpo:zKe y=decide (zLs fnL (zK2 fnL y)=[]):=by unfold zKe;rw[p0,p1,p2];rfl
  cases p3:decide (zLs fnL (zK2 fnL y)=[])
  ·rw[if_pos (show(!false)=true from rfl)]
   exact bad h19 k19 (by rw[hpo,p3])
  ·rw[if_neg (show ¬ (!true)=true by decide)]
   exact good h19 k19 (by rw[hpo,p3])
 ·intro h hsz hI
  refine .inl ⟨rfl,?_⟩
  rw[hxl]at hI
  obtain⟨h22,st22,a22,k22⟩:=hI.a.st1 (i:=0) (v := .bool true) (by simp) rfl
  have hok:=hI.ok
  rw[List.take_of_length_le (Nat.le_refl _)]at hok
  show Mwr (st1 h (Ptr H.size 0) (.bool true)) _
  rw[st22,zAm]
  refine zSP fun h23 hc=>?_
  have d:ld1 h23 (Ptr H.size 0)=some (.bool true):=(a22.closed hc).ld rfl
  show Mpu (ld1 h23 (Ptr H.size 0)) _
  rw[d,zAa]
  exact⟨by rw[hfo,hok],zFI (hI.k.fresh k22 fun b hb=>by omega) hc⟩
 ·rintro c h hsz ⟨rfl,x0,x1,x4⟩
  refine .inr ⟨rfl,?_⟩
  refine zSP fun h25 hc=>?_
  have d:ld1 h25 (Ptr H.size 0)=some (.bool false):=(x1.closed hc).ld rfl
  show Mpu (ld1 h25 (Ptr H.size 0)) _
  rw[d,zAa]
  exact⟨by rw[hfo,x0],zFI x4 hc⟩
theorem zMs {n m:Nat}:zAh .no .lss (.int .i64 (n:Nat)) (.int .i64 (m:Nat))=some (.bool (decide (n<m))):=by
 rw[zAi];simp only[zA9];congr 2;rw[decide_eq_decide];omega
theorem zZc {n m:Nat}:zAh .no .gtr (.int .i64 (n:Nat)) (.int .i64 (m:Nat))=some (.bool (decide (n > m))):=by
 rw[zAi];simp only[zA9];congr 2;rw[decide_eq_decide];omega
theorem zAe1 {n m:Nat}:zAh .no .eql (.int .i64 (n:Nat)) (.int .i64 (m:Nat))=some (.bool (decide (n=m))):=by
 rw[zAi];simp only[zA9];congr 2;rw[Bool.eq_iff_iff];simp <;> omega
theorem zAia {n m:Nat}:zAh .no .neq (.int .i64 (n:Nat)) (.int .i64 (m:Nat))=some (.bool (!decide (n=m))):=by
 rw[zAi];simp only[zA9];congr 2;rw[Bool.eq_iff_iff];simp <;> omega
theorem ltI {x y:Int}:zAh .no .lss (.int .i64 x) (.int .i64 y)=some (.bool (decide (x<y))):=by rw[zAi];rfl
theorem gtI {x y:Int}:zAh .no .gtr (.int .i64 x) (.int .i64 y)=some (.bool (decide (x > y))):=by rw[zAi];rfl
theorem geI {x y:Int}:zAh .no .geq (.int .i64 x) (.int .i64 y)=some (.bool (decide (x>=y))):=by rw[zAi];rfl
theorem eqI {x y:Int}:zAh .no .eql (.int .i64 x) (.int .i64 y)=some (.bool (decide (x=y))):=by
 rw[zAi];simp only[zA9];congr 2
theorem neI {x y:Int}:zAh .no .neq (.int .i64 x) (.int .i64 y)=some (.bool (!decide (x=y))):=by
 rw[zAi];simp only[zA9];congr 2
theorem zOU {p:Nat->Bool}{n i:Nat}(hi:i<n)(h:p i=false):(List.range n).all p=false:=List.all_eq_false.2 ⟨i,List.mem_range.2 hi,by simp[h]⟩
theorem zNr {p:Nat->Bool}{i:Nat}(h:(List.range i).all p=true)(hb:p i=true):(List.range (i+1)).all p=true:=by
 rw[List.range_succ,List.all_append,h];simp[hb]
theorem zXq {H:zAd}{d:zE8}(hd:d.wf):zAg prg zCn [.agg (zB9 d).toArray] H fun u H'=>u=str d.name/\Keep (fun _=>False) H H':=by
 apply zJ5
 unfold zIM
 simp only[zAN,zAs]
 have a:At (H.push (.cells (zB9 d).toArray zAu (0,0))) H.size (zB9 d):=At.push
 have d0:ld1 (H.push (.cells (zB9 d).toArray zAu (0,0))) (Ptr H.size 0)=some (str d.name):=a.ld rfl
 rw[zAx,zAa,Nat.add_zero,d0,zAa]
 exact⟨rfl,Keep.push⟩
theorem zXr {P:Nat->Prop}{H:zAd}{v:Value}{l:List zE8}(hv:SlE 34 P H v (l.map zB9))(hw:∀ d ∈ l,d.wf)(hl:l.length<=1099511627776) :
  zAg prg zCC [v,.func (.func zCn) #[] #[]] H fun u H'=>u = .bool (zOP (l.map (·.name)))/\Keep (fun _=>False) H H':=by
 apply zFN
 unfold zD7
 have hlen:=hv.len
 rw[List.length_map]at hlen
 have hln:(l.map (·.name)).length=l.length:=by simp
 have hcall:∀ (d:zE8) (h:zAd) (k:Value->zAd->Prop),d.wf->(∀ h',Keep (fun _=>False) h h'->k (str d.name) h')->zBF prg (.func (.func zCn) #[] #[]) [.agg (zB9 d).toArray] h k:=fun d h k hd hk =>
  .inl ⟨zCn,#[],#[],rfl,by kernel_rfl,zAg.mono (R:=fun u H'=>u=str d.name/\Keep (fun _=>False) h H') (zXq hd) fun u h' hR=>by obtain⟨rfl,k'⟩:=hR;exact hk h' k'⟩
 refine zL2 (fun _ h=>zOP (l.map (·.name))=true/\Keep (fun _=>False) H h) (fun k hk=>?_) ?_
 ·refine zHU (fun u h=>∃ i:Nat,1<=i/\u = .int .i64 (i:Nat)/\(List.range (min i l.length)).all (zMd (l.map (·.name)))=true/\Keep (fun _=>False) H h) (fun u _=>match u with | .int _ t=>l.length - t.toNat | _=>0) ⟨1,Nat.le_refl _,rfl,?_,Keep.refl⟩ ?_
  ·by_cases h0:l.length=0
   ·rw[h0];rfl
   ·rw[Nat.min_eq_left (by omega)];rfl
  rintro _ h ⟨i,hi,rfl,hall,kh⟩ k2 hk2
  rw[hlen,zAa,zMs,zAa,zAc]
  by_cases hlt:i<l.length
  ·rw[if_pos (by simpa using hlt)]
   have hg:l[i]? = some l[i]:=List.getElem?_eq_getElem hlt
   have hg':l[i - 1]? = some (l[i - 1]'(by omega)):=List.getElem?_eq_getElem (by omega)
   have hvh:=hv.keep kh fun _ _=>id
   obtain⟨b,o,hix,hpt,_⟩:=hvh.at (i:=i) (x:=zB9 l[i]) (by rw[List.getElem?_map,hg];rfl)
   obtain⟨b',o',hix',hpt',_⟩:=hvh.at (i:=i - 1) (x:=zB9 (l[i - 1]'(by omega))) (by rw[List.getElem?_map,hg'];rfl)
   have hwd:=hw _ (List.getElem_mem hlt)
   have hwd':=hw _ (List.getElem_mem (show i - 1<l.length by omega))
   have hra:zMd (l.map (·.name)) i=zTU (l[i - 1]'(by omega)).name l[i].name:=by
    have h0:((l.map (·.name)).getD (i - 1) [])=(l[i - 1]'(by omega)).name:=by simp[List.getD,hg']
    have h1:((l.map (·.name)).getD i [])=l[i].name:=by simp[List.getD,hg]
    unfold zMd
    rw[h0,h1,decide_eq_false (by omega)];rfl
   generalize l[i]=d at *
   generalize (l[i - 1]'(by omega))=d' at *
   have e2:zAh .no .sub (.int .i64 (i:Nat)) (.int .i64 1)=some (.int .i64 ((i - 1:Nat):Int)):=by
    rw[zAi];simp only[zA9];rw[zAM (by omega) (by omega)];congr 2;omega
   rw[e2,zAa,hix' .i64,zAa,hpt'.agg (zBG hwd'),zAa,hix .i64,zAa,hpt.agg (zBG hwd),zAa]
   refine hcall d' h _ hwd' fun h5 k5=>?_
   refine⟨(hpt.keep k5 id).agg (zBG hwd),?_⟩
   refine hcall d h5 _ hwd fun h6 k6=>?_
   have hge:zAh .no .geq (str d'.name) (str d.name)=some (.bool (!zTU d'.name d.name)):=by rw[zEI];exact zV5
   rw[hge,zAa,zAc]
   have kk:=kh.trans (k5.trans k6)
   cases hb:zTU d'.name d.name
   ·rw[if_pos (show(!false)=true from rfl)]
    exact⟨by rw[zWo (i:=i) (by rw[hln];exact hlt) (by rw[hra,hb])],kk⟩
   ·rw[if_neg (by decide),zAG (by omega),zAa]
    refine hk2 _ _ ⟨i+1,by omega,rfl,?_,kk⟩ (by show l.length - (i+1)<l.length - i;omega)
    rw[Nat.min_eq_left (by omega)]at hall ⊢
    exact zT3 hall (by rw[hra,hb])
  ·rw[if_neg (by simpa using hlt)]
   refine hk _ _ ⟨?_,kh⟩
   rw[Nat.min_eq_right (by omega)]at hall
   unfold zOP
   rw[hln];exact hall
 ·rintro _ h ⟨h1,h2⟩
  exact⟨by rw[h1],h2⟩
def zUd:zE8:=⟨[],[],0⟩
def zPv (l:List zE8)(i j:Nat):Bool:=decide (i=j) || !zLz (l.getD j zUd).name (l.getD i zUd).name
def zHL (l:List zE8)(i:Nat):Bool:=zXP (l.getD i zUd).name && !zLz (l.getD i zUd).name [118,97,114] && !decide ((l.getD i zUd).size<0) && !decide ((l.getD i zUd).size > 1048576) && (List.range l.length).all (zPv l i)
def zM5 (l:List zE8):Bool:=decide (l.length<=64) && zOP (l.map (·.name)) && (List.range l.length).all (zHL l)
theorem zQ5 {α:Type}{l:List α}{i:Nat}{x z:α}(h:l[i]? = some x):l.getD i z=x:=by simp[List.getD,h]
theorem zAcH {l:List UInt8}(h:zXP l=true):l.length<=64:=by
 unfold zXP at h
 simp only[Bool.and_eq_true,decide_eq_true_eq]at h
 exact h.1.2
theorem zVk:zAB prg zAu=some (zB9 ⟨[],List.replicate 32 0,0⟩).toArray:=by kernel_rfl
theorem zAbE:(⟨[],List.replicate 32 0,0⟩:zE8).wf:=⟨by simp,by simp,by simp⟩
set_option maxHeartbeats 4000000 in
theorem zAbF {P:Nat->Prop}{H:zAd}{m:Man}{vd vc vf:Value}(hv:zJJ P H m vd vc vf) :
  zAg prg zDZ [.agg (zEN m vd vc vf).toArray] H fun u H'=>u = .bool (zM5 m.files)/\Keep (fun _=>False) H H':=by
 apply zHQ
 unfold zFW
 simp only[zAN,zAs,zAx,Nat.zero_add,Nat.add_zero,zAa]
 generalize hH1:H.push (.cells (zEN m vd vc vf).toArray zAb (0,0))=H1
 have k1:Keep (fun _=>False) H H1:=by rw[<- hH1];exact Keep.push
 have a1:At H1 H.size (zEN m vd vc vf):=by rw[<- hH1];exact At.push
 have w:=hv.wf
 have d7:∀ h,Keep (fun _=>False) H1 h->ld1 h (Ptr H.size 7)=some vf:=fun h k=>(zE9 (a1.keep k id) w).2.2
 have hf:=hv.f
 generalize hL:m.files=l at *
 have hlen:=hf.len
 rw[List.length_map]at hlen
 have hwl:∀ f ∈ l,f.wf:=fun f hf=>w.files f (by rw[hL];exact hf)
 have e64:zAh .no .gtr (.int .i64 (l.length:Nat)) (.int .i64 64)=some (.bool (decide (l.length > 64))):=zZc (m:=64)
 rw[d7 _ Keep.refl,zAa,hlen,zAa,e64,zAa]
 cases h64:decide (l.length > 64)
 rotate_left
 ·simp only[zAF,zAl,Bool.true_eq_false,if_false,zAe,if_true,zAa,zAc]
  exact⟨by unfold zM5;rw[decide_eq_false (show ¬ l.length<=64 by have:=of_decide_eq_true h64;omega)];rfl,k1⟩
 have hl:l.length<=64:=by have:=of_decide_eq_false h64;omega
 refine zAF.2 ?_
 rw[zAl,if_pos rfl,zAa]
 refine zAk (zXr (hf.keep k1 fun _ _=>id) hwl (by omega)) ?_
 rintro _ h3 ⟨rfl,k3⟩
 have k13:=k1.trans k3
 have hfo:zM5 l=(zOP (l.map (·.name)) && (List.range l.length).all (zHL l)):=by unfold zM5;rw[decide_eq_true hl];rfl
 rw[zAq,zAa]
 cases hr:zOP (l.map (·.name))
 ·simp only[Bool.not_false,zAe,Bool.false_eq_true,if_false,if_true,zAa,zAc]
  exact⟨by rw[hfo,hr];rfl,k13⟩
 rw[hr,Bool.true_and]at hfo
 rw[Bool.not_true,zAe,if_neg (by decide),zAa,zAc,if_neg (by decide)]
 refine zL2 (fun _ h=>(List.range l.length).all (zHL l)=true/\Keep (fun _=>False) H h) (fun k hk=>?_) ?_
 rotate_left
 ·rintro _ h ⟨h1,h2⟩
  exact⟨by rw[hfo,h1],h2⟩
 rw[d7 _ k3,zAa,hlen,zAa]
 refine zHU (fun u h=>∃ i:Nat,i<=l.length/\u = .int .i64 (i:Nat)/\(List.range i).all (zHL l)=true/\Keep (fun _=>False) h3 h) (fun u _=>match u with | .int _ t=>l.length - t.toNat | _=>0) ⟨0,Nat.zero_le _,rfl,rfl,Keep.refl⟩ ?_
 rintro _ h ⟨i,hi,rfl,hall,kh⟩ kk hkk
 rw[zMs,zAa,zAc]
 have k0h:=k13.trans kh
 by_cases hlt:i<l.length
 rotate_left
 ·rw[if_neg (by simpa using hlt)]
  obtain rfl:i=l.length:=by omega
  exact hk _ _ ⟨hall,k0h⟩
 rw[if_pos (by simpa using hlt)]
 have hg:l[i]? = some l[i]:=List.getElem?_eq_getElem hlt
 have hgd:=zQ5 (z:=zUd) hg
 have hfoi:zHL l i=(zXP l[i].name && !zLz l[i].name [118,97,114] && !decide (l[i].size<0) && !decide (l[i].size > 1048576) && (List.range l.length).all (zPv l i)):=by unfold zHL;rw[hgd]
 have hap:∀ j,zPv l i j=(decide (i=j) || !zLz (l.getD j zUd).name l[i].name):=fun j=>by unfold zPv;rw[hgd]
 have hwf:=hwl _ (List.getElem_mem hlt)
 generalize l[i]=f at *
 refine J4_i (fun _ _ _ _ h'=>zHL l i=true/\Keep (fun _=>False) h3 h') (fun k9 hk9=>?_) ?_
 rotate_left
 ·rintro _ _ _ _ h' ⟨h1,h2⟩
  rw[zAG (by omega),zAa]
  exact hkk _ _ ⟨i+1,by omega,rfl,zNr hall h1,h2⟩ (by show l.length - (i+1)<l.length - i;omega)
 obtain⟨b,o,hix,hpt,_⟩:=(hf.keep k0h fun _ _=>id).at (i:=i) (x:=zB9 f) (by rw[List.getElem?_map,hg];rfl)
 rw[hix .i64,zAa,hpt.agg (zBG hwf),zAa]
 simp only[zVk,zAs]
 generalize hH11:h.push (.cells (zB9 ⟨[],List.replicate 32 0,0⟩).toArray zAu (0,0))=h11
 have k11:Keep (fun _=>False) h h11:=by rw[<- hH11];exact Keep.push
 have a11:At h11 h.size (zB9 ⟨[],List.replicate 32 0,0⟩):=by rw[<- hH11];exact At.push
 obtain⟨h12,st12,a12,k12⟩:=a11.st (n:=34) (ds:=zB9 f) (zBG zAbE) (zBG hwf) zKd
 have gh:=kh.1
 have k312:Keep (fun _=>False) h3 h12:=(kh.trans k11).fresh k12 fun b hb=>by omega
 have dn:∀ h',Keep (fun _=>False) h12 h'->ld1 h' (Ptr h.size 0)=some (str f.name):=fun h' k'=>(a12.keep k' id).ld rfl
 have dsz:∀ h',Keep (fun _=>False) h12 h'->ld1 h' (Ptr h.size 33)=some (.int .i64 f.size):=fun h' k'=>(a12.keep k' id).ld (by
  show(zB9 f)[33]? = _
  unfold zB9
  rw[List.getElem?_cons_succ,List.getElem?_append_right (by simp[hwf.sum])]
  simp[hwf.sum])
 have svar:(Value.string ⟨#[118,97,114]⟩)=str [118,97,114]:=rfl
 have bad:∀ h',Keep (fun _=>False) h12 h'->zHL l i=false->(Value.bool false = .bool (zM5 l)/\Keep (fun _=>False) H h'):=fun h' k' hb=>⟨by rw[hfo,zOU hlt hb],(k13.trans k312).trans k'⟩
 rw[st12,zAm]
 simp only[zAx,Nat.zero_add,Nat.add_zero,zAa]
 rw[dn _ Keep.refl,zAa]
 refine zAk zVj ?_
 rintro _ h13 ⟨rfl,k13'⟩
 rw[zAq,zAa]
 cases q1:zXP f.name
 ·simp only[Bool.not_false,zAF,zAl,zAo,Bool.true_eq_false,if_false,zAe,if_true,zAa,zAc]
  exact bad _ k13' (by rw[hfoi,q1];rfl)
 rw[Bool.not_true]
 refine zAF.2 ?_
 rw[zAl,if_pos rfl,dn _ k13',zAa,svar]
 refine zAk (zZb (by simp)) ?_
 rintro _ h15 ⟨rfl,k15⟩
 have k1215:=k13'.trans k15
 rw[zAe,if_neg (by decide),zAa]
 cases q2:zLz f.name [118,97,114]
 rotate_left
 ·simp only[zAF,zAl,zAo,Bool.true_eq_false,if_false,zAe,if_true,zAa,zAc]
  exact bad _ k1215 (by rw[hfoi,q1,q2];rfl)
 refine zAF.2 ?_
 rw[zAl,if_pos rfl,dsz _ k1215,zAa,ltI,zAa]
 show Mpu (zAC (.bool false) (.bool true) _) _
 rw[zAe,if_neg (by decide),zAa]
 cases q3:decide (f.size<0)
 rotate_left
 ·simp only[zAF,zAl,zAo,Bool.true_eq_false,if_false,zAe,if_true,zAa,zAc]
  exact bad _ k1215 (by rw[hfoi,q1,q2,q3];rfl)
 refine zAF.2 ?_
 rw[zAl,if_pos rfl,dsz _ k1215,zAa,gtI,zAa]
 show Mpu (zAC (.bool false) (.bool true) _) _
 rw[zAe,if_neg (by decide),zAa]
 cases q4:decide (f.size > 1048576)
 rotate_left
 ·simp only[zAF,zAl,zAo,Bool.true_eq_false,if_false,zAe,if_true,zAa,zAc]
  exact bad _ k1215 (by rw[hfoi,q1,q2,q3,q4];rfl)
 rw[zAc,if_neg (by decide),d7 _ (k3.trans (k312.trans k1215)),zAa,hlen,zAa]
 have hfoi2:zHL l i=(List.range l.length).all (zPv l i):=by rw[hfoi,q1,q2,q3,q4];rfl
 refine zHU (fun u h'=>∃ j:Nat,j<=l.length/\u = .int .i64 (j:Nat)/\(List.range j).all (zPv l i)=true/\Keep (fun _=>False) h15 h') (fun u _=>match u with | .int _ t=>l.length - t.toNat | _=>0) ⟨0,Nat.zero_le _,rfl,rfl,Keep.refl⟩ ?_
 rintro _ g ⟨j,hj,rfl,hallj,kg⟩ k21 hk21
 rw[zMs,zAa,zAc]
 have k12g:=k1215.trans kg
 by_cases hltj:j<l.length
 rotate_left
 ·rw[if_neg (by simpa using hltj)]
  obtain rfl:j=l.length:=by omega
  exact hk9 _ _ _ _ _ ⟨by rw[hfoi2,hallj],k312.trans k12g⟩
 rw[if_pos (by simpa using hltj)]
 have hgj:l[j]? = some l[j]:=List.getElem?_eq_getElem hltj
 have hwj:=hwl _ (List.getElem_mem hltj)
 have hapj:=hap j
 rw[zQ5 hgj]at hapj
 generalize l[j]=f2 at *
 obtain⟨b2,o2,hix2,hpt2,_⟩:=(hf.keep ((k13.trans k312).trans k12g) fun _ _=>id).at (i:=j) (x:=zB9 f2) (by rw[List.getElem?_map,hgj];rfl)
 rw[hix2 .i64,zAa,hpt2.agg (zBG hwj),zAa]
 generalize hH23:g.push (.cells (zB9 ⟨[],List.replicate 32 0,0⟩).toArray zAu (0,0))=h23
 have k23:Keep (fun _=>False) g h23:=by rw[<- hH23];exact Keep.push
 have a23:At h23 g.size (zB9 ⟨[],List.replicate 32 0,0⟩):=by rw[<- hH23];exact At.push
 obtain⟨h24,st24,a24,k24⟩:=a23.st (n:=34) (ds:=zB9 f2) (zBG zAbE) (zBG hwj) zKd
 have gg:=kg.1
 have k1524:Keep (fun _=>False) h15 h24:=(kg.trans k23).fresh k24 fun b hb=>by omega
 have dn2:ld1 h24 (Ptr g.size 0)=some (str f2.name):=a24.ld rfl
 rw[st24,zAm,zAia,zAa]
 cases q5:decide (i=j)
 ·refine zAF.2 ?_
  rw[Bool.not_false,zAl,if_pos rfl,dn2,zAa,dn _ (k1215.trans k1524),zAa]
  have:=zAcH q1
  refine zAk (zZb (by omega)) ?_
  rintro _ h26 ⟨rfl,k26⟩
  rw[zAe,if_pos rfl,zAa,zAc]
  cases q6:zLz f2.name f.name
  ·rw[if_neg (by decide),zAG (by omega),zAa]
   exact hk21 _ _ ⟨j+1,by omega,rfl,zNr hallj (by rw[hapj,q5,q6];rfl),k1524.trans k26⟩ (by show l.length - (j+1)<l.length - j;omega)
  ·rw[if_pos rfl]
   exact bad _ (k1215.trans (k1524.trans k26)) (by rw[hfoi2];exact zOU hltj (by rw[hapj,q5,q6];rfl))
 ·refine zAF.2 ?_
  rw[Bool.not_true,zAl,if_neg (by decide)]
  show Mpu (zAC (.bool false) undef (.bool false)) _
  rw[zAe,if_neg (by decide),zAa,zAc,if_neg (by decide),zAG (by omega),zAa]
  exact hk21 _ _ ⟨j+1,by omega,rfl,zNr hallj (by rw[hapj,q5];rfl),k1524⟩ (by show l.length - (j+1)<l.length - j;omega)
def zEt (m:Man):Bool:=zXl m && zM5 m.files
theorem zQd {P:Nat->Prop}{H:zAd}{m:Man}{vd vc vf:Value}(hv:zJJ P H m vd vc vf)(hd:m.deps.length<=1099511627776)(hc:m.conf.length<=1099511627776)(hO:zNR H) :
  zAg prg zBt [.agg (zEN m vd vc vf).toArray] H fun u H'=>u = .bool (zEt m)/\Keep (fun _=>False) H H':=by
 apply zHP
 unfold zFV
 simp only[zAN,zAs]
 generalize hH1:H.push (.cells (zEN m vd vc vf).toArray zAb (0,0))=H1
 have k1:Keep (fun _=>False) H H1:=by rw[<- hH1];exact Keep.push
 have a1:At H1 H.size (zEN m vd vc vf):=by rw[<- hH1];exact At.push
 have w:=hv.wf
 rw[zAx,zAa,Nat.add_zero,zBE a1,zAa]
 refine zAk (zV4 w.name) ?_
 rintro _ h2 ⟨rfl,k2⟩
 have a2:=a1.keep k2 id
 have k12:=k1.trans k2
 unfold zEt zXl
 cases h1:zG2 m.name
 ·simp only[zAq,Bool.not_true,Bool.not_false,zAl,zAo,zAe,zAc,zAa,if_true,if_false,Bool.false_eq_true,Bool.true_eq_false,decide_true,decide_false,reduceCtorEq,zAF,zCz,zCA,zCw,zCx,zCy,zAw,zAr,Bool.false_and]
  exact⟨by trivial,k12⟩
 simp only[zAx,Nat.zero_add,zFK a2 w,zAq,Bool.not_true,Bool.not_false,zAl,zAo,zAe,zAc,zAa,if_true,if_false,Bool.false_eq_true,Bool.true_eq_false,decide_true,decide_false,reduceCtorEq,zAF,zCz,zCA,zCw,zCx,zCy,zAw,zAr]
 refine zAk (zNh w.ver) ?_
 rintro _ h3 ⟨rfl,k3⟩
 have a3:=a2.keep k3 id
 have k13:=k12.trans k3
 cases h2:zEX m.ver
 ·simp only[zAq,Bool.not_true,Bool.not_false,zAl,zAo,zAe,zAc,zAa,if_true,if_false,Bool.false_eq_true,Bool.true_eq_false,decide_true,decide_false,reduceCtorEq,zAF,zCz,zCA,zCw,zCx,zCy,zAw,zAr,Bool.false_and,Bool.and_false]
  exact⟨by trivial,k13⟩
 obtain⟨g5,g6,g7⟩:=zE9 a3 w
 simp only[zAx,Nat.zero_add,zQZ a3 w,g5,zAq,Bool.not_true,Bool.not_false,zAl,zAo,zAe,zAc,zAa,if_true,if_false,Bool.false_eq_true,Bool.true_eq_false,decide_true,decide_false,reduceCtorEq,zAF,zCz,zCA,zCw,zCx,zCy,zAw,zAr]
 refine zAk (zAcz (hv.d.keep k13 fun _ _=>id) w.deps (hO.keep k13 fun _ h=>h.elim) hd) ?_
 rintro _ h4 ⟨rfl,k4⟩
 have a4:=a3.keep k4 id
 have k14:=k13.trans k4
 cases h3:zLw m.name m.deps
 ·simp only[zAq,Bool.not_true,Bool.not_false,zAl,zAo,zAe,zAc,zAa,if_true,if_false,Bool.false_eq_true,Bool.true_eq_false,decide_true,decide_false,reduceCtorEq,zAF,zCz,zCA,zCw,zCx,zCy,zAw,zAr,Bool.false_and,Bool.and_false]
  exact⟨by trivial,k14⟩
 obtain⟨g5,g6,g7⟩:=zE9 a4 w
 simp only[zAx,Nat.zero_add,zQZ a4 w,g6,zAq,Bool.not_true,Bool.not_false,zAl,zAo,zAe,zAc,zAa,if_true,if_false,Bool.false_eq_true,Bool.true_eq_false,decide_true,decide_false,reduceCtorEq,zAF,zCz,zCA,zCw,zCx,zCy,zAw,zAr]
 refine zAk (zAcz (hv.c.keep k14 fun _ _=>id) w.conf (hO.keep k14 fun _ h=>h.elim) hc) ?_
 rintro _ h5 ⟨rfl,k5⟩
 have a5:=a4.keep k5 id
 have k15:=k14.trans k5
 cases h4:zLw m.name m.conf
 ·simp only[zAq,Bool.not_true,Bool.not_false,zAl,zAo,zAe,zAc,zAa,if_true,if_false,Bool.false_eq_true,Bool.true_eq_false,decide_true,decide_false,reduceCtorEq,zAF,zCz,zCA,zCw,zCx,zCy,zAw,zAr,Bool.false_and,Bool.and_false]
  exact⟨by trivial,k15⟩
 simp only[zQZ a5 w,zAq,Bool.not_true,Bool.not_false,zAl,zAo,zAe,zAc,zAa,if_true,if_false,Bool.false_eq_true,Bool.true_eq_false,decide_true,decide_false,reduceCtorEq,zAF,zCz,zCA,zCw,zCx,zCy,zAw,zAr]
 refine zAk (zAbF (hv.keep k15 fun _ _=>id)) ?_
 rintro _ h6 ⟨rfl,k6⟩
 simp only[zAq,Bool.not_true,Bool.not_false,zAl,zAo,zAe,zAc,zAa,if_true,if_false,Bool.false_eq_true,Bool.true_eq_false,decide_true,decide_false,reduceCtorEq,zAF,zCz,zCA,zCw,zCx,zCy,zAw,zAr,Bool.true_and]
 exact⟨by trivial,k15.trans k6⟩
end Go.Proofs.YticdfkoncnnmmaaGreatDoor
