import Derived.Test.YticdfkoncnnmmaaGreatDoorG6
import Derived.Test.YticdfkoncnnmmaaGreatDoorG1
import Derived.MapKept
import Derived.Maps.RangeRun
set_option linter.unusedSimpArgs false
set_option linter.unusedVariables false
set_option maxRecDepth 100000
namespace Go.Proofs.YticdfkoncnnmmaaGreatDoor
open Go.X Go.X.Diff
theorem zAiH {c:Array Value}{o j n:Nat}{x:List Value}{w:Value}(hx:x.length=n)(hle:o+n<=c.size)(hj:j<n)(hc:(c.toList.drop o).take n=x):spl c o (x.set j w).toArray=c.setIfInBounds (o+j) w:=by
 apply Array.ext'
 rw[zCa]
 unfold spl
 show List.take o c.toList++x.set j w++List.drop (o+(x.set j w).toArray.size) c.toList=_
 have hsz:(x.set j w).toArray.size=n:=by simp[hx]
 rw[hsz]
 have e:c.toList=List.take o c.toList++(x++List.drop (o+n) c.toList):=by
  rw[<- hc,<- zCy,zBl,zBl]
 have hlt:(List.take o c.toList).length=o:=by rw[zA4];simp;omega
 conv=>rhs;rw[e]
 rw[zCR _ _ (by rw[hlt];omega),hlt,zCK,List.set_append_left _ _ (by omega),zBg]
theorem _root_.Go.X.BufE.st {n:Nat}{F:zA1}{H:zAx}{v:Value}{xs:List (List Value)}(h:BufE n F H v xs){i j:Nat}{x:List Value}(hi:xs[i]? = some x)(hj:j<n){w:Value}(hw:w.oneCell'=true) :
  ∃ b o H',(∀ k,ixS n v (.int k i)=some (Ptr b o))/\Pt H b o x/\st1 H (Ptr b (o+j)) w=some H'/\BufE n F H' v (xs.set i (x.set j w))/\Keep F H H':=by
 obtain⟨hlt,hxe⟩:=zAV.1 hi
 have hxl:x.length=n:=h.1 x (by rw[<- hxe];exact zAH _)
 have hx1:∀ c∈x,c.oneCell'=true:=h.2.1 x (by rw[<- hxe];exact zAH _)
 have h1:∀ c∈x.set j w,c.oneCell'=true:=λc hc=>by
  rcases List.mem_or_eq_of_mem_set hc with hc|rfl
  ·exact hx1 c hc
  ·exact hw
 obtain⟨p,H',hip,hst,hb,hk⟩:=h.set hlt (x:=x.set j w) (by simp[hxl]) h1
 obtain⟨b,o,hib,hpt,_⟩:=h.sl.at hi
 have hpe:p=Ptr b o:=zAN ((hip .i64).symm.trans (hib .i64))
 subst hpe
 refine⟨b,o,H',hib,hpt,?_,hb,hk⟩
 obtain⟨c,T,f,hbb,hle,hc⟩:=hpt
 simp only[stN]at hst
 rw[if_pos (by simp[hxl])]at hst
 unfold stA at hst
 rw[hbb]at hst
 simp only at hst
 split at hst
 ·rename_i hcnd
  obtain⟨c1,c2,c3⟩:=hcnd
  simp only[st1,hbb]
  have hth:zUV f (o+j) 1=true:=by
   unfold zUV at c2 ⊢
   simp only[zB7,List.length_set,hxl,zB9,decide_eq_true_eq]at c2 ⊢
   omega
  rw[if_pos ⟨by omega,hth,hw⟩,<- hst]
  rw[hxl]at hc hle
  rw[zAiH hxl hle hj hc]
 ·cases hst
theorem zXW {P:Program}{T:TypeId}{H:zAx}{k:zAm}(hk:k (.map (some H.size)) (H.push (.map #[] 0))):zQx P (Instr.makeMap T none) H k:=λw hw=>by
 subst hw
 refine⟨.map (some w.heap.size),{ w with heap:=w.heap.push (.map #[] 0) },?_,⟨rfl,rfl,rfl,zF5.push⟩,hk⟩
 simp[Instr.makeMap]
def zOS (H:zAx)(q:Nat)(es:List (Value×Value)):Prop:=∃ (arr:Array MapEntry) (clock:Nat),H[q]? = some (.map arr clock)/\arr.toList.map (λe=>(e.key,e.val))=es/\(∀ e∈arr.toList,e.born<clock)/\(arr.toList.map (·.born)).Nodup
theorem zOS.keep {H H':zAx}{q:Nat}{es:List (Value×Value)}{S:zA1}(h:zOS H q es)(k:Keep S H H')(hs:¬ S q):zOS H' q es:=by
 obtain⟨a,c,h1,h2⟩:=h
 exact⟨a,c,k.at h1 hs,h2⟩
theorem zOS.new {H:zAx}:zOS (H.push (.map #[] 0)) H.size []:=⟨#[],0,zCj,rfl,(λe h=>by cases h),List.nodup_nil⟩
open Go.MapKept
def zAlv (P:Program)(mty:TypeId)(d:TypeDesc)(z:Value):Prop:=∃ kt et,P.underlying mty=some (.map kt et)/\P.underlying kt=some d/\∀ w:World,(zeroValue et).run P w = .ok z w
def zAiI (ok:Bool)(v:Value)(b:Bool):Value:=if ok then .tuple #[v,.bool b] else v
theorem zVG {arr:Array MapEntry}{es:List (Value×Value)}(h:arr.toList.map (λe=>(e.key,e.val))=es){j:Nat}{e:MapEntry}(hj:arr.toList[j]? = some e):es[j]? = some (e.key,e.val):=by
 rw[<- h,zAq,hj];rfl
theorem zAav {P:Program}{mty:TypeId}{d:TypeDesc}{z key:Value}{ok:Bool}{H:zAx}{q:Nat}{es:List (Value×Value)}{k:zAm}(hT:zAlv P mty d z)(hm:zOS H q es)(hks:∀ x∈es,IsKey d x.1)(hk:IsKey d key)
  (h1:∀ v,(key,v)∈es->k (zAiI ok v true) H) (h2:(∀ x∈es,x.1≠key)->k (zAiI ok z false) H):zQx P (Instr.lookup mty (.map (some q)) key ok) H k:=λw hw=>by
 subst hw
 obtain⟨kt,et,t1,t2,t3⟩:=hT
 obtain⟨arr,clock,hb,he,hbn,hnd⟩:=hm
 have hks':∀ x∈arr.toList,IsKey d x.key:=λx hx=>hks (x.key,x.val) (by rw[<- he];exact zAo.2 ⟨x,hx,rfl⟩)
 rcases findNow_spec hk arr.toList 0 hks' with ⟨f1,f2⟩|⟨j,e,f1,f2,f3⟩
 ·refine⟨zAiI ok z false,w,?_,zJI.rfl' _,h2 λx hx=>?_⟩
  ·cases ok<;>simp[Instr.lookup,run_underlying t1,Go.MapKept.run_getObj_map hb,run_checkKey t2 hk,run_findKey t2 f1,t3,Result.andThen,zAiI]
  ·rw[<- he]at hx
   obtain⟨y,hy,rfl⟩:=zAo.1 hx
   exact f2 y hy
 ·refine⟨zAiI ok e.val true,w,?_,zJI.rfl' _,h1 _ ?_⟩
  ·cases ok<;>simp[Instr.lookup,run_underlying t1,Go.MapKept.run_getObj_map hb,run_checkKey t2 hk,run_findKey t2 f1,Result.andThen,zAiI]
  ·have:=zVG he f2
   rw[f3]at this
   exact zAC this
theorem zUz {arr:Array MapEntry}{j:Nat}{key val:Value}:(arr.modify j λe=>{ e with key:=key,val:=val }).toList.map (·.born)=arr.toList.map (·.born):=by
 apply zCT
 intro i
 rw[zAq,zAq,Array.toList_modify,List.getElem?_modify]
 by_cases h:j=i
 ·subst h
  cases arr.toList[j]? <;> simp
 ·simp[h]
theorem zAaw {P:Program}{mty:TypeId}{d:TypeDesc}{z key val:Value}{H:zAx}{q:Nat}{es:List (Value×Value)}{k:zAm}(hT:zAlv P mty d z)(hm:zOS H q es)(hks:∀ x∈es,IsKey d x.1)(hk:IsKey d key)
  (h1:∀ j v H',es[j]? = some (key,v)->zOS H' q (es.set j (key,val))->Keep (· = q) H H'->k undef H') (h2:∀ H',(∀ x∈es,x.1≠key)->zOS H' q (es++[(key,val)])->Keep (· = q) H H'->k undef H'):Msu P (Instr.mapUpdate mty (.map (some q)) key val) H k:=λw hw=>by
 subst hw
 obtain⟨kt,et,t1,t2,t3⟩:=hT
 obtain⟨arr,clock,hb,he,hbn,hnd⟩:=hm
 have hks':∀ x∈arr.toList,IsKey d x.key:=λx hx=>hks (x.key,x.val) (by rw[<- he];exact zAo.2 ⟨x,hx,rfl⟩)
 have hsol:∀ o:Obj,(∀ ds,o ≠ .deferred ds)->zF5 w.heap (w.heap.setIfInBounds q o):=λo ho i ds hi=>by
  rw[zAE]
  split
  ·rename_i e;subst e;rw[hb]at hi;cases hi
  ·exact hi
 rcases findNow_spec hk arr.toList 0 hks' with ⟨f1,f2⟩|⟨j,e,f1,f2,f3⟩
 ·refine⟨{ w with heap:=w.heap.setIfInBounds q (.map (arr.push { key,val,born:=clock }) (clock+1)) },?_,⟨rfl,rfl,rfl,hsol _ (λ_ e=>by cases e)⟩,h2 _ (λx hx=>?_) ⟨_,_,(heap_set hb).1,?_,?_,?_⟩ (Keep.set rfl)⟩
  ·simp[Instr.mapUpdate,run_underlying t1,Go.MapKept.run_getObj_map hb,run_checkKey t2 hk,run_findKey t2 f1,Go.MapKept.run_setObj_map _ hb,Result.andThen]
  ·rw[<- he]at hx
   obtain⟨y,hy,rfl⟩:=zAo.1 hx
   exact f2 y hy
  ·rw[Array.toList_push,zAF,he];rfl
  ·intro x hx
   rw[Array.toList_push]at hx
   rcases zAp.1 hx with hx|hx
   ·have:=hbn x hx;omega
   ·rw[zAD.1 hx];show clock<clock+1;omega
  ·rw[Array.toList_push,zAF,zCH]
   refine⟨hnd,by simp,λa ha b hb' e=>?_⟩
   obtain⟨x,hx,rfl⟩:=zAo.1 ha
   have hb'':b=clock:=by simpa using hb'
   have:=hbn x hx;omega
 ·have hj:arr[j]? = some e:=by simpa using f2
  have hes:=zVG he f2
  rw[f3]at hes
  refine⟨{ w with heap:=w.heap.setIfInBounds q (.map (arr.modify j λe=>{ e with key:=key,val:=val }) clock) },?_,⟨rfl,rfl,rfl,hsol _ (λ_ e=>by cases e)⟩,h1 j e.val _ hes ⟨_,_,(heap_set hb).1,?_,?_,?_⟩ (Keep.set rfl)⟩
  ·simp[Instr.mapUpdate,run_underlying t1,Go.MapKept.run_getObj_map hb,run_checkKey t2 hk,run_findKey t2 f1,hj,f3,run_keyThatStays hk,Go.MapKept.run_setObj_map _ hb,Result.andThen]
  ·rw[<- he]
   apply zCT
   intro i
   rw[Array.toList_modify,zAq,List.getElem?_modify,List.getElem?_set]
   by_cases hij:j=i
   ·subst hij
    obtain⟨hlt,_⟩:=zAV.1 f2
    have hlt':j<arr.size:=by simpa using hlt
    simp[f2,hlt']
   ·rw[if_neg hij]
    simp[hij]
  ·intro x hx
   have:x.born∈arr.toList.map (·.born):=by rw[<- zUz (j:=j) (key:=key) (val:=val)];exact zAo.2 ⟨x,hx,rfl⟩
   obtain⟨y,hy,e⟩:=zAo.1 this
   rw[<- e];exact hbn y hy
  ·rw[zUz];exact hnd
def zAbt (H:zAx)(r q:Nat)(es:List (Value×Value))(vis:List Nat):Prop:=∃ (arr:Array MapEntry) (clock:Nat) (seen:Array Nat),H[q]? = some (.map arr clock)/\arr.toList.map (λe=>(e.key,e.val))=es/\(∀ e∈arr.toList,e.born<clock)/\(arr.toList.map (·.born)).Nodup /\
 H[r]? = some (.mapIter (some q) clock seen clock)/\r≠q/\vis.Nodup/\(∀ i∈vis,i<arr.size)/\(∀ i (h:i<arr.size),arr[i].born∈seen↔i∈vis)/\seen.toList=vis.map λi=>(arr[i]?.map (·.born)).getD 0
theorem zAbt.keep {H H':zAx}{r q:Nat}{es:List (Value×Value)}{vis:List Nat}{S:zA1}(h:zAbt H r q es vis)(k:Keep S H H')(hr:¬ S r)(hq:¬ S q):zAbt H' r q es vis:=by
 obtain⟨arr,clock,seen,h1,h2,h3,h4,h5,h6⟩:=h
 exact⟨arr,clock,seen,k.at h1 hq,h2,h3,h4,k.at h5 hr,h6⟩
theorem zAbt.map {H:zAx}{r q:Nat}{es:List (Value×Value)}{vis:List Nat}(h:zAbt H r q es vis):zOS H q es:=by
 obtain⟨arr,clock,seen,h1,h2,h3,h4,_⟩:=h
 exact⟨arr,clock,h1,h2,h3,h4⟩
theorem zAfH {P:Program}{T k' e:TypeId}{H:zAx}{q:Nat}{es:List (Value×Value)}{k:zAm}(ht:P.underlying T=some (.map k' e))(hm:zOS H q es)(hk:∀ H',zAbt H' H.size q es []->Keep zAK H H'->k (Ptr H.size 0) H'):zQx P (Instr.range T (.map (some q))) H k:=λw hw=>by
 subst hw
 obtain⟨arr,clock,hb,he,hbn,hnd⟩:=hm
 refine⟨_,_,run_range_map w T k' e q arr clock ht hb,⟨rfl,rfl,rfl,zF5.push⟩,hk _ ⟨arr,clock,#[],zTD hb,he,hbn,hnd,zCj,?_,List.nodup_nil,(λi h=>by cases h),(λi h=>by simp),rfl⟩ Keep.push⟩
 have:=lt_of hb;omega
theorem zAiJ {P:Program}{T:TypeId}{H:zAx}{r q:Nat}{es:List (Value×Value)}{vis:List Nat}{k:zAm}(hI:zAbt H r q es vis)
  (h1:∀ (i:Nat) (x:Value×Value),es[i]? = some x->i∉vis->∀ H',zAbt H' r q es (vis++[i])->Keep (· = r) H H'->k (.tuple #[.bool true,x.1,x.2]) H') (h2:(∀ i,i<es.length->i∈vis)->k (.tuple #[.bool false]) H) :
  zQx P (Instr.next (Ptr r 0) false T) H k:=λw hw=>by
 subst hw
 obtain⟨arr,clock,seen,hb,he,hbn,hnd,hr,hrq,hv,hvl,hs,hsv⟩:=hI
 have hlen:es.length=arr.size:=by rw[<- he];simp
 rcases run_next_at w T r q clock clock seen arr clock hr hb hbn (zAh _) with ⟨h0,hrun⟩|⟨e,hel,w1,hw1,hrun⟩
 ·refine⟨_,w,hrun,zJI.rfl' _,h2 λi hi=>?_⟩
  have hi':i<arr.size:=by omega
  refine(hs i hi').1 ?_
  have:¬ arr[i]∈leftOf arr seen:=λhm=>by
   have:=Array.size_pos_of_mem hm;omega
  unfold leftOf at this
  rw[Array.mem_filter]at this
  simpa using this
 ·have hem:e∈leftOf arr seen:=by simpa using hel
  unfold leftOf at hem
  rw[Array.mem_filter]at hem
  obtain⟨hea,hns⟩:=hem
  obtain⟨i,hi,rfl⟩:=Array.getElem_of_mem hea
  have hnv:i∉vis:=λh=>by
   have:=(hs i hi).2 h
   simp[this]at hns
  have hh:(w1.heap:zAx)=w.heap:=by rcases hw1 with rfl|rfl<;>rfl
  have hsame:zJI w w1:=by
   rcases hw1 with rfl|rfl
   ·exact zJI.rfl' _
   ·exact⟨rfl,rfl,rfl,zF5.rfl'⟩
  have hset:(ChangeMaps.setBlock w1 r (.mapIter (some q) clock (seen.push arr[i].born) clock)).heap=(w.heap:zAx).setIfInBounds r (.mapIter (some q) clock (seen.push arr[i].born) clock):=by
   show(w1.heap:zAx).setIfInBounds r _=_
   rw[hh]
  refine⟨_,_,hrun,⟨hsame.os,hsame.tape,hsame.output,?_⟩,?_⟩
  ·rw[hset]
   intro j ds hj
   rw[zAE]
   split
   ·rename_i e;subst e;rw[hr]at hj;cases hj
   ·exact hj
  ·rw[hset]
   refine h1 i (arr[i].key,arr[i].val) ?_ hnv _ ⟨arr,clock,seen.push arr[i].born,?_,he,hbn,hnd,zBm hr,hrq,?_,?_,?_,by rw[Array.toList_push,hsv,zAF];simp[hi]⟩ (Keep.set rfl)
   ·rw[<- he,zAq]
    simp[hi]
   ·exact zAcF hb hrq
   ·rw[zCH]
    exact⟨hv,by simp,λa ha b hb e=>by simp at hb;subst hb;subst e;exact hnv ha⟩
   ·intro j hj
    rcases zAp.1 hj with hj|hj
    ·exact hvl j hj
    ·rw[zAD.1 hj];exact hi
   ·intro j hj
    rw[Array.mem_push,hs j hj,zAp,zAD]
    refine or_congr Iff.rfl ⟨λe=>?_,λe=>by subst e;rfl⟩
    have hp:=zBH.1 (zBu.1 (zB6.1 hnd))
    have hjl:j<arr.toList.length:=by simpa using hj
    have hil:i<arr.toList.length:=by simpa using hi
    rcases Nat.lt_trichotomy j i with h|h|h
    ·exact absurd e (by simpa using hp j i hjl hil h)
    ·exact h
    ·exact absurd e.symm (by simpa using hp i j hil hjl h)
theorem zAfI {P:Program}{H:zAx}{r q i:Nat}{es:List (Value×Value)}{vis:List Nat}{x:Value×Value}{k:zAm}(hI:zAbt H r q es (vis++[i]))(hx:es[i]? = some x)(hk:k (.tuple #[x.1,x.2]) H):zQx P (Instr.entry (Ptr r 0)) H k:=λw hw=>by
 subst hw
 obtain⟨arr,clock,seen,hb,he,hbn,hnd,hr,hrq,hv,hvl,hs,hsv⟩:=hI
 have hi:i<arr.size:=hvl i (by simp)
 have hseen:seen=(vis.map λi=>(arr[i]?.map (·.born)).getD 0).toArray.push arr[i].born:=by
  apply Array.ext'
  rw[hsv,zAF,Array.toList_push]
  simp[hi]
 rw[hseen]at hr
 have hxe:x=(arr[i].key,arr[i].val):=by
  rw[<- he,zAq]at hx
  simp[hi]at hx
  exact hx.symm
 subst hxe
 exact⟨_,w,run_entry_at w r q clock _ arr clock arr[i] hr hb (by simp) hnd,zJI.rfl' w,hk⟩
def zOq (a b:List UInt8):Bool:=decide (a=b) || (decide ((b++[47]).length<=a.length)&&decide (a.take (b++[47]).length=b++[47]))
theorem zAdl {H:zAx}{a b:List UInt8}(hb:b.length<=1048576):zAA prg zIX [str a,str b] H λu H'=>u = .bool (zOq a b)/\Keep zAK H H':=by
 apply zOH
 unfold zOg
 have e:=λq=>zDV (q:=q) (a:=a) (b:=b)
 have s:(Value.string ⟨#[47]⟩)=str [47]:=rfl
 rw[e,zAa,s]
 unfold zOq
 cases h:decide (a=b)
 ·simp only[zBT,zAQ,if_true,zCs]
  rw[zUp (by simp;omega),zAa]
  refine zAI (R:=λu H'=>u = .bool (decide ((b++[47]).length<=a.length)&&decide (a.take (b++[47]).length=b++[47]))/\H=H') ?_ ?_
  ·apply zIj
   unfold zIv
   refine zAI zUq ?_
   rintro _ _ ⟨rfl,rfl⟩
   exact⟨rfl,rfl⟩
  ·rintro _ _ ⟨rfl,rfl⟩
   simp only[zAv,zAb,if_false,zAa]
   exact⟨by trivial,Keep.refl⟩
 ·simp only[zBT,zAQ,zAc,if_false,zAv,if_true,zAa,Bool.true_or]
  exact⟨by trivial,Keep.refl⟩
def fnL:List UInt8:=[97,98,99,100,101,102,103,104,105,106,107,108,109,110,111,112,113,114,115,116,117,118,119,120,121,122,48,49,50,51,52,53,54,55,56,57,46,95,45]
def zM6 (w:List UInt8):Bool:=!decide (w=[]) && !decide (w=[46]) && !decide (w=[46,46])&&decide (zOk fnL (zNU fnL w)=[])
def zAbY (l:List UInt8):Bool:=!decide (l=[])&&decide (l.length<=64)&&(zD0 47 l).all zM6
structure FnI (H:zAx)(l:List UInt8)(j:Nat)(h:zAx):Prop where
 a:At h H.size [.bool false]
 ok:((zD0 47 l).take j).all zM6=true
 k:Keep zAK H h
theorem FnI.keep {H:zAx}{l:List UInt8}{j:Nat}{h h':zAx}{S:zA1}(p:FnI H l j h)(k:Keep S h h')(hs:∀ b,S b->H.size<b):FnI H l j h' :=
 ⟨p.a.keep k λhS=>by have:=hs _ hS;omega,p.ok,p.k.fresh k λb hb=>by have:=hs b hb;omega⟩
theorem zAiK:zBI prg zXt=some [Value.bool false].toArray:=by kernel_rfl
set_option maxHeartbeats 2000000 in
theorem zZa {H:zAx}{l:List UInt8}:zAA prg zPD [str l] H λu H'=>u = .bool (zAbY l)/\Keep zAK H H':=by
 apply zRc
 unfold zRU
 simp only[zAiK,zBb]
 generalize hH1:H.push (.cells [Value.bool false].toArray zXt (0,0))=H1
 have k1:Keep zAK H H1:=by rw[<- hH1];exact Keep.push
 have a1:At H1 H.size [.bool false]:=by rw[<- hH1];exact At.push
 have s1:H1.size=H.size+1:=by rw[<- hH1];simp
 have s0:(Value.string ⟨#[]⟩)=str []:=rfl
 have s47:(Value.string ⟨#[47]⟩)=str [47]:=rfl
 have s46:(Value.string ⟨#[46]⟩)=str [46]:=rfl
 have s446:(Value.string ⟨#[46,46]⟩)=str [46,46]:=rfl
 have sfn:(Value.string ⟨#[97,98,99,100,101,102,103,104,105,106,107,108,109,110,111,112,113,114,115,116,117,118,119,120,121,122,48,49,50,51,52,53,54,55,56,57,46,95,45]⟩)=str fnL:=rfl
 have e0:=λq=>zDV (q:=q) (a:=l) (b:=[])
 have e64:zAB .no .gtr (.int .i64 (l.length:Nat)) (.int .i64 64)=some (.bool (decide (l.length > 64))):=zAkn
 rw[s0,s47,s46,s446,sfn,e0,zAa]
 have no:∀ h,At h H.size [.bool false]->Keep zAK H h->zAbY l=false->Mwr (st1 h (Ptr H.size 0) (.bool false)) λh4=>Mcl H.size h4 λh5=>Mpu (ld1 h5 (Ptr H.size 0)) λr6=>r6 = .bool (zAbY l)/\Keep zAK H h5:=λh a kh hf=>by
  obtain⟨h4,st4,a4,k4⟩:=a.st1 (i:=0) (v := .bool false) (by simp) rfl
  rw[st4,zAW]
  refine zWv λh5 hc=>?_
  have d:ld1 h5 (Ptr H.size 0)=some (.bool false):=(a4.closed hc).ld rfl
  rw[d,zAa]
  exact⟨by rw[hf],zH5 (kh.fresh k4 λb hb=>by omega) hc⟩
 cases hnil:decide (l=[])
 rotate_left
 ·simp only[zBT,zAQ,zAc,if_false,zAv,if_true,zAa,zAl]
  exact no H1 a1 k1 (by unfold zAbY;rw[hnil];rfl)
 refine zBT.2 ?_
 rw[zAQ,if_pos rfl,zFu,zAa,e64,zAa]
 cases h64:decide (l.length > 64)
 rotate_left
 ·simp only[zAv,if_true,zAb,if_false,zAa,zAl]
  exact no H1 a1 k1 (by unfold zAbY;rw[hnil,decide_eq_false (show ¬ l.length<=64 by have:=of_decide_eq_true h64;omega)];rfl)
 have hl:l.length<=64:=by have:=of_decide_eq_false h64;omega
 have hfo:zAbY l=(zD0 47 l).all zM6:=by unfold zAbY;rw[hnil,decide_eq_true hl];rfl
 rw[zAv,if_neg (by decide),zAa,zAl,if_neg (by decide)]
 refine zAI zVB ?_
 rintro _ h5 ⟨qs,qp,qn,rfl,hst,hq,k5⟩
 have g5:=k5.1
 have k05:=k1.trans k5
 have inv0:FnI H l 0 h5:=⟨a1.keep k5 id,rfl,k05⟩
 have hxl:((zD0 47 l).map λx=>[str x]).length=(zD0 47 l).length:=by simp
 refine range_i (xs:=(zD0 47 l).map λx=>[str x]) (S:=λb=>b=qs\/b=qp\/b=qn) (W:=λb=>b=H.size\/h5.size+2<=b) (St:=zRh qs qp qn l 47)
  (zVA (by omega)) (λo o'=>?_) k05.1
  (FnI H l) (λc h=>c = .ret/\(zD0 47 l).all zM6=false/\At h H.size [.bool false]/\Keep zAK H h) inv0
  (λi h h' hI k=>hI.keep k λb hb=>?_) (λc h h' hX k=>?_) (λb hb=>(hq b hb).2) (λb hb=>?_) ?_ ?_ ?_
 ·have kp:Keep zAK h5 ((h5.push o).push o'):=Keep.push.trans Keep.push
  exact⟨hst.s.keep kp id,hst.p.keep kp id,hst.n.keep kp id,hst.ne⟩
 ·rcases hb with hb|rfl|rfl
  ·have:=hq b hb;omega
  ·omega
  ·omega
 ·obtain⟨rfl,x0,x1,x4⟩:=hX
  have nb:∀ b,(b=qs\/b=qp\/b=qn)\/b=h5.size\/b=h5.size+1->H.size<b:=λb hb=>by
   rcases hb with hb|rfl|rfl
   ·have:=hq b hb;omega
   ·omega
   ·omega
  exact⟨rfl,x0,x1.keep k λhb=>by have:=nb _ hb;omega,x4.fresh k λb hb=>by have:=nb b hb;omega⟩
 ·refine⟨by omega,by omega,λhbq=>?_⟩
  have:=hq b hbq;omega
 ·intro j x h r hx hI hloop hready K hN hEx
  obtain⟨y,hy,rfl⟩:∃ y,(zD0 47 l)[j]? = some y/\x=[str y]:=by
   rw[zAq]at hx
   obtain⟨y,h1,h2⟩:=zBF.1 hx
   exact⟨y,h1,h2.symm⟩
  refine⟨rfl,r,hloop,hready,?_⟩
  have hsz:=lt_of hloop
  generalize hhb:h.setIfInBounds (h5.size+1) (.loop { r with state := .busy })=hb at *
  have kb:Keep (· = h5.size+1) h hb:=by rw[<- hhb];exact Keep.set rfl
  have gb:=kb.1
  have hI:=hI.keep kb λb hb=>by omega
  have hmem:y∈zD0 47 l:=zAC hy
  have hyl:=zOn hmem
  have htk:(zD0 47 l).take (j+1)=(zD0 47 l).take j++[y]:=by rw[zAG,hy];rfl
  have bad:∀ h',Keep zAK hb h'->zM6 y=false->Mwr (st1 h' (Ptr H.size 0) (.bool false)) λh21=>K (some Code.ret) h21:=λh' k' hf=>by
   obtain⟨h12,st12,a12,k12⟩:=(hI.a.keep k' id).st1 (i:=0) (v := .bool false) (by simp) rfl
   rw[st12,zAW]
   have kW:Keep (λb=>b=H.size\/h5.size+2<=b) hb h12:=(k'.mono λ_ _ h=>h.elim).trans (k12.mono λb _ h => .inl h)
   exact hEx _ h12 kW ⟨rfl,zCt.2 ⟨y,hmem,by simp[hf]⟩,a12,hI.k.fresh kW λb hb'=>by omega⟩
  have good:∀ h',Keep zAK hb h'->zM6 y=true->K none h':=λh' k' hf=>by
   refine hN h' (k'.mono λ_ _ h=>h.elim) ⟨hI.a.keep k' id,?_,hI.k.trans k'⟩
   rw[htk,zCO,hI.ok];simp[hf]
  have q0:=λq=>zDV (q:=q) (a:=y) (b:=[])
  have q1:=λq=>zDV (q:=q) (a:=y) (b:=[46])
  have q2:=λq=>zDV (q:=q) (a:=y) (b:=[46,46])
  show Mpu (zAB .no .eql (str y) (str [])) _
  rw[q0,zAa]
  cases p0:decide (y=[])
  rotate_left
  ·simp only[zBT,zAQ,zAc,if_false,zAv,if_true,zAa,zAl]
   exact bad hb Keep.refl (by unfold zM6;rw[p0];rfl)
  refine zBT.2 ?_
  rw[zAQ,if_pos rfl]
  show Mpu (zAB .no .eql (str y) (str [46])) _
  rw[q1,zAa]
  cases p1:decide (y=[46])
  rotate_left
  ·simp only[zBT,zAQ,zAc,zAb,if_false,zAv,if_true,zAa,zAl]
   exact bad hb Keep.refl (by unfold zM6;rw[p0,p1];rfl)
  rw[zAv,if_neg (by decide),zAa]
  refine zBT.2 ?_
  rw[zAQ,if_pos rfl]
  show Mpu (zAB .no .eql (str y) (str [46,46])) _
  rw[q2,zAa]
  cases p2:decide (y=[46,46])
  rotate_left
  ·simp only[zBT,zAQ,zAc,zAb,if_false,zAv,if_true,zAa,zAl]
   exact bad hb Keep.refl (by unfold zM6;rw[p0,p1,p2];rfl)
  rw[zAv,if_neg (by decide),zAa]
  refine zBT.2 ?_
  rw[zAQ,if_pos rfl]
  show zAX prg zHi [str y,str fnL] hb _
  refine zAI (zAcO (cs:=fnL) (by decide) (by decide) (by decide) (by omega)) ?_
  rintro _ h19 ⟨rfl,k19⟩
  have q3:zAB .no .neq (str (zOk fnL (zNU fnL y))) (str [])=some (.bool (!decide (zOk fnL (zNU fnL y)=[]))):=zWr
  rw[q3,zAa]
  show Mpu (zBD (.bool false) (.bool true) (.bool (!decide (zOk fnL (zNU fnL y)=[])))) _
  rw[zAv,if_neg (by decide),zAa,zAl]
  have hpo:zM6 y=decide (zOk fnL (zNU fnL y)=[]):=by unfold zM6;rw[p0,p1,p2];rfl
  cases p3:decide (zOk fnL (zNU fnL y)=[])
  ·rw[if_pos (show(!false)=true from rfl)]
   exact bad h19 k19 (by rw[hpo,p3])
  ·rw[if_neg (show ¬ (!true)=true by decide)]
   exact good h19 k19 (by rw[hpo,p3])
 ·intro h hsz hI
  refine .inl ⟨rfl,?_⟩
  rw[hxl]at hI
  obtain⟨h22,st22,a22,k22⟩:=hI.a.st1 (i:=0) (v := .bool true) (by simp) rfl
  have hok:=hI.ok
  rw[zAr (zAh _)]at hok
  show Mwr (st1 h (Ptr H.size 0) (.bool true)) _
  rw[st22,zAW]
  refine zWv λh23 hc=>?_
  have d:ld1 h23 (Ptr H.size 0)=some (.bool true):=(a22.closed hc).ld rfl
  show Mpu (ld1 h23 (Ptr H.size 0)) _
  rw[d,zAa]
  exact⟨by rw[hfo,hok],zH5 (hI.k.fresh k22 λb hb=>by omega) hc⟩
 ·rintro c h hsz ⟨rfl,x0,x1,x4⟩
  refine .inr ⟨rfl,?_⟩
  refine zWv λh25 hc=>?_
  have d:ld1 h25 (Ptr H.size 0)=some (.bool false):=(x1.closed hc).ld rfl
  show Mpu (ld1 h25 (Ptr H.size 0)) _
  rw[d,zAa]
  exact⟨by rw[hfo,x0],zH5 x4 hc⟩
theorem zNZ {n m:Nat}:zAB .no .lss (.int .i64 (n:Nat)) (.int .i64 (m:Nat))=some (.bool (decide (n<m))):=by
 rw[zAJ];simp only[zC8];congr 2;rw[decide_eq_decide];omega
theorem zAbu {n m:Nat}:zAB .no .gtr (.int .i64 (n:Nat)) (.int .i64 (m:Nat))=some (.bool (decide (n > m))):=by
 rw[zAJ];simp only[zC8];congr 2;rw[decide_eq_decide];omega
theorem zAjz {n m:Nat}:zAB .no .eql (.int .i64 (n:Nat)) (.int .i64 (m:Nat))=some (.bool (decide (n=m))):=by
 rw[zAJ];simp only[zC8];congr 2;rw[zAR];simp<;>omega
theorem zAm0 {n m:Nat}:zAB .no .neq (.int .i64 (n:Nat)) (.int .i64 (m:Nat))=some (.bool (!decide (n=m))):=by
 rw[zAJ];simp only[zC8];congr 2;rw[zAR];simp<;>omega
theorem ltI {x y:Int}:zAB .no .lss (.int .i64 x) (.int .i64 y)=some (.bool (decide (x<y))):=by rw[zAJ];rfl
theorem gtI {x y:Int}:zAB .no .gtr (.int .i64 x) (.int .i64 y)=some (.bool (decide (x > y))):=by rw[zAJ];rfl
theorem geI {x y:Int}:zAB .no .geq (.int .i64 x) (.int .i64 y)=some (.bool (decide (x>=y))):=by rw[zAJ];rfl
theorem eqI {x y:Int}:zAB .no .eql (.int .i64 x) (.int .i64 y)=some (.bool (decide (x=y))):=by
 rw[zAJ];simp only[zC8];congr 2
theorem neI {x y:Int}:zAB .no .neq (.int .i64 x) (.int .i64 y)=some (.bool (!decide (x=y))):=by
 rw[zAJ];simp only[zC8];congr 2
theorem zR7 {p:Nat->Bool}{n i:Nat}(hi:i<n)(h:p i=false):(List.range n).all p=false:=zCt.2 ⟨i,zBC.2 hi,by simp[h]⟩
theorem zQu {p:Nat->Bool}{i:Nat}(h:(List.range i).all p=true)(hb:p i=true):(List.range (i+1)).all p=true:=by
 rw[List.range_succ,zCO,h];simp[hb]
theorem zAbv {H:zAx}{d:zHt}(hd:d.wf):zAA prg zEz [.agg (zEj d).toArray] H λu H'=>u=str d.name/\Keep zAK H H':=by
 apply zMW
 unfold zLs
 simp only[zB8,zBb]
 have a:At (H.push (.cells (zEj d).toArray zBn (0,0))) H.size (zEj d):=At.push
 have d0:ld1 (H.push (.cells (zEj d).toArray zBn (0,0))) (Ptr H.size 0)=some (str d.name):=a.ld rfl
 rw[zBf,zAa,zAu,d0,zAa]
 exact⟨rfl,Keep.push⟩
theorem zAbw {P:zA1}{H:zAx}{v:Value}{l:List zHt}(hv:SlE 34 P H v (l.map zEj))(hw:∀ d∈l,d.wf)(hl:l.length<=1099511627776) :
  zAA prg zEO [v,.func (.func zEz) #[] #[]] H λu H'=>u = .bool (zR2 (l.map (·.name)))/\Keep zAK H H':=by
 apply zH9
 unfold zGr
 have hlen:=hv.len
 rw[zAd]at hlen
 have hln:(l.map (·.name)).length=l.length:=by simp
 have hcall:∀ (d:zHt) (h:zAx) (k:zAm),d.wf->(∀ h',Keep zAK h h'->k (str d.name) h')->zDQ prg (.func (.func zEz) #[] #[]) [.agg (zEj d).toArray] h k:=λd h k hd hk =>
  .inl ⟨zEz,#[],#[],rfl,by kernel_rfl,zAA.mono (R:=λu H'=>u=str d.name/\Keep zAK h H') (zAbv hd) λu h' hR=>by obtain⟨rfl,k'⟩:=hR;exact hk h' k'⟩
 refine zOt (λ_ h=>zR2 (l.map (·.name))=true/\Keep zAK H h) (λk hk=>?_) ?_
 ·refine zKj (λu h=>∃ i:Nat,1<=i/\u = .int .i64 (i:Nat)/\(List.range (min i l.length)).all (zO9 (l.map (·.name)))=true/\Keep zAK H h) (λu _=>match u with | .int _ t=>l.length-t.toNat|_=>0) ⟨1,zAh _,rfl,?_,Keep.refl⟩ ?_
  ·by_cases h0:l.length=0
   ·rw[h0];rfl
   ·rw[zBN (by omega)];rfl
  rintro _ h ⟨i,hi,rfl,hall,kh⟩ k2 hk2
  rw[hlen,zAa,zNZ,zAa,zAl]
  by_cases hlt:i<l.length
  ·rw[if_pos (by simpa using hlt)]
   have hg:l[i]? = some l[i]:=zAj hlt
   have hg':l[i-1]? = some (l[i-1]'(by omega)):=zAj (by omega)
   have hvh:=hv.keep kh λ_ _=>id
   obtain⟨b,o,hix,hpt,_⟩:=hvh.at (i:=i) (x:=zEj l[i]) (by rw[zAq,hg];rfl)
   obtain⟨b',o',hix',hpt',_⟩:=hvh.at (i:=i-1) (x:=zEj (l[i-1]'(by omega))) (by rw[zAq,hg'];rfl)
   have hwd:=hw _ (zAH hlt)
   have hwd':=hw _ (zAH (show i-1<l.length by omega))
   have hra:zO9 (l.map (·.name)) i=zXD (l[i-1]'(by omega)).name l[i].name:=by
    have h0:((l.map (·.name)).getD (i-1) [])=(l[i-1]'(by omega)).name:=by simp[List.getD,hg']
    have h1:((l.map (·.name)).getD i [])=l[i].name:=by simp[List.getD,hg]
    unfold zO9
    rw[h0,h1,decide_eq_false (by omega)];rfl
   generalize l[i]=d at *
   generalize (l[i-1]'(by omega))=d' at *
   have e2:zAB .no .sub (.int .i64 (i:Nat)) (.int .i64 1)=some (.int .i64 ((i-1:Nat):Int)):=by
    rw[zAJ];simp only[zC8];rw[zCe (by omega) (by omega)];congr 2;omega
   rw[e2,zAa,hix' .i64,zAa,hpt'.agg (zDR hwd'),zAa,hix .i64,zAa,hpt.agg (zDR hwd),zAa]
   refine hcall d' h _ hwd' λh5 k5=>?_
   refine⟨(hpt.keep k5 id).agg (zDR hwd),?_⟩
   refine hcall d h5 _ hwd λh6 k6=>?_
   have hge:zAB .no .geq (str d'.name) (str d.name)=some (.bool (!zXD d'.name d.name)):=by rw[zGf];exact zWj
   rw[hge,zAa,zAl]
   have kk:=kh.trans (k5.trans k6)
   cases hb:zXD d'.name d.name
   ·rw[if_pos (show(!false)=true from rfl)]
    exact⟨by rw[zAap (i:=i) (by rw[hln];exact hlt) (by rw[hra,hb])],kk⟩
   ·rw[if_neg (by decide),zBV (by omega),zAa]
    refine hk2 _ _ ⟨i+1,by omega,rfl,?_,kk⟩ (by show l.length-(i+1)<l.length-i;omega)
    rw[zBN (by omega)]at hall ⊢
    exact zXM hall (by rw[hra,hb])
  ·rw[if_neg (by simpa using hlt)]
   refine hk _ _ ⟨?_,kh⟩
   rw[Nat.min_eq_right (by omega)]at hall
   unfold zR2
   rw[hln];exact hall
 ·rintro _ h ⟨h1,h2⟩
  exact⟨by rw[h1],h2⟩
def zXX:zHt:=⟨[],[],0⟩
def zSU (l:List zHt)(i j:Nat):Bool:=decide (i=j) || !zOq (l.getD j zXX).name (l.getD i zXX).name
def zKh (l:List zHt)(i:Nat):Bool:=zAbY (l.getD i zXX).name && !zOq (l.getD i zXX).name [118,97,114] && !decide ((l.getD i zXX).size<0) && !decide ((l.getD i zXX).size > 1048576)&&(List.range l.length).all (zSU l i)
def zP4 (l:List zHt):Bool:=decide (l.length<=64)&&zR2 (l.map (·.name))&&(List.range l.length).all (zKh l)
theorem zUA {α:Type}{l:List α}{i:Nat}{x z:α}(h:l[i]? = some x):l.getD i z=x:=by simp[List.getD,h]
theorem zAg3 {l:List UInt8}(h:zAbY l=true):l.length<=64:=by
 unfold zAbY at h
 simp only[zAk,decide_eq_true_eq]at h
 exact h.1.2
theorem zZb:zBI prg zBn=some (zEj ⟨[],List.replicate 32 0,0⟩).toArray:=by kernel_rfl
theorem zAfJ:(⟨[],List.replicate 32 0,0⟩:zHt).wf:=⟨by simp,by simp,by simp⟩
set_option maxHeartbeats 4000000 in
theorem zAfK {P:zA1}{H:zAx}{m:Man}{vd vc vf:Value}(hv:zLd P H m vd vc vf) :
  zAA prg zGk [.agg (zGN m vd vc vf).toArray] H λu H'=>u = .bool (zP4 m.files)/\Keep zAK H H':=by
 apply zKo
 unfold zIi
 simp only[zB8,zBb,zBf,zAi,zAu,zAa]
 generalize hH1:H.push (.cells (zGN m vd vc vf).toArray zAe (0,0))=H1
 have k1:Keep zAK H H1:=by rw[<- hH1];exact Keep.push
 have a1:At H1 H.size (zGN m vd vc vf):=by rw[<- hH1];exact At.push
 have w:=hv.wf
 have d7:∀ h,Keep zAK H1 h->ld1 h (Ptr H.size 7)=some vf:=λh k=>(zHv (a1.keep k id) w).2.2
 have hf:=hv.f
 generalize hL:m.files=l at *
 have hlen:=hf.len
 rw[zAd]at hlen
 have hwl:∀ f∈l,f.wf:=λf hf=>w.files f (by rw[hL];exact hf)
 have e64:zAB .no .gtr (.int .i64 (l.length:Nat)) (.int .i64 64)=some (.bool (decide (l.length > 64))):=zAbu (m:=64)
 rw[d7 _ Keep.refl,zAa,hlen,zAa,e64,zAa]
 cases h64:decide (l.length > 64)
 rotate_left
 ·simp only[zBT,zAQ,zAc,if_false,zAv,if_true,zAa,zAl]
  exact⟨by unfold zP4;rw[decide_eq_false (show ¬ l.length<=64 by have:=of_decide_eq_true h64;omega)];rfl,k1⟩
 have hl:l.length<=64:=by have:=of_decide_eq_false h64;omega
 refine zBT.2 ?_
 rw[zAQ,if_pos rfl,zAa]
 refine zAI (zAbw (hf.keep k1 λ_ _=>id) hwl (by omega)) ?_
 rintro _ h3 ⟨rfl,k3⟩
 have k13:=k1.trans k3
 have hfo:zP4 l=(zR2 (l.map (·.name))&&(List.range l.length).all (zKh l)):=by unfold zP4;rw[decide_eq_true hl];rfl
 rw[zA7,zAa]
 cases hr:zR2 (l.map (·.name))
 ·simp only[zAf,zAv,zAb,if_false,if_true,zAa,zAl]
  exact⟨by rw[hfo,hr];rfl,k13⟩
 rw[hr,zBa]at hfo
 rw[zAg,zAv,if_neg (by decide),zAa,zAl,if_neg (by decide)]
 refine zOt (λ_ h=>(List.range l.length).all (zKh l)=true/\Keep zAK H h) (λk hk=>?_) ?_
 rotate_left
 ·rintro _ h ⟨h1,h2⟩
  exact⟨by rw[hfo,h1],h2⟩
 rw[d7 _ k3,zAa,hlen,zAa]
 refine zKj (λu h=>∃ i:Nat,i<=l.length/\u = .int .i64 (i:Nat)/\(List.range i).all (zKh l)=true/\Keep zAK h3 h) (λu _=>match u with | .int _ t=>l.length-t.toNat|_=>0) ⟨0,zAz _,rfl,rfl,Keep.refl⟩ ?_
 rintro _ h ⟨i,hi,rfl,hall,kh⟩ kk hkk
 rw[zNZ,zAa,zAl]
 have k0h:=k13.trans kh
 by_cases hlt:i<l.length
 rotate_left
 ·rw[if_neg (by simpa using hlt)]
  obtain rfl:i=l.length:=by omega
  exact hk _ _ ⟨hall,k0h⟩
 rw[if_pos (by simpa using hlt)]
 have hg:l[i]? = some l[i]:=zAj hlt
 have hgd:=zUA (z:=zXX) hg
 have hfoi:zKh l i=(zAbY l[i].name && !zOq l[i].name [118,97,114] && !decide (l[i].size<0) && !decide (l[i].size > 1048576)&&(List.range l.length).all (zSU l i)):=by unfold zKh;rw[hgd]
 have hap:∀ j,zSU l i j=(decide (i=j) || !zOq (l.getD j zXX).name l[i].name):=λj=>by unfold zSU;rw[hgd]
 have hwf:=hwl _ (zAH hlt)
 generalize l[i]=f at *
 refine J4_i (λ_ _ _ _ h'=>zKh l i=true/\Keep zAK h3 h') (λk9 hk9=>?_) ?_
 rotate_left
 ·rintro _ _ _ _ h' ⟨h1,h2⟩
  rw[zBV (by omega),zAa]
  exact hkk _ _ ⟨i+1,by omega,rfl,zQu hall h1,h2⟩ (by show l.length-(i+1)<l.length-i;omega)
 obtain⟨b,o,hix,hpt,_⟩:=(hf.keep k0h λ_ _=>id).at (i:=i) (x:=zEj f) (by rw[zAq,hg];rfl)
 rw[hix .i64,zAa,hpt.agg (zDR hwf),zAa]
 simp only[zZb,zBb]
 generalize hH11:h.push (.cells (zEj ⟨[],List.replicate 32 0,0⟩).toArray zBn (0,0))=h11
 have k11:Keep zAK h h11:=by rw[<- hH11];exact Keep.push
 have a11:At h11 h.size (zEj ⟨[],List.replicate 32 0,0⟩):=by rw[<- hH11];exact At.push
 obtain⟨h12,st12,a12,k12⟩:=a11.st (n:=34) (ds:=zEj f) (zDR zAfJ) (zDR hwf) zM5
 have gh:=kh.1
 have k312:Keep zAK h3 h12:=(kh.trans k11).fresh k12 λb hb=>by omega
 have dn:∀ h',Keep zAK h12 h'->ld1 h' (Ptr h.size 0)=some (str f.name):=λh' k'=>(a12.keep k' id).ld rfl
 have dsz:∀ h',Keep zAK h12 h'->ld1 h' (Ptr h.size 33)=some (.int .i64 f.size):=λh' k'=>(a12.keep k' id).ld (by
  show(zEj f)[33]? = _
  unfold zEj
  rw[zC4,zBe (by simp[hwf.sum])]
  simp[hwf.sum])
 have svar:(Value.string ⟨#[118,97,114]⟩)=str [118,97,114]:=rfl
 have bad:∀ h',Keep zAK h12 h'->zKh l i=false->(Value.bool false = .bool (zP4 l)/\Keep zAK H h'):=λh' k' hb=>⟨by rw[hfo,zR7 hlt hb],(k13.trans k312).trans k'⟩
 rw[st12,zAW]
 simp only[zBf,zAi,zAu,zAa]
 rw[dn _ Keep.refl,zAa]
 refine zAI zZa ?_
 rintro _ h13 ⟨rfl,k13'⟩
 rw[zA7,zAa]
 cases q1:zAbY f.name
 ·simp only[zAf,zBT,zAQ,zAU,zAc,if_false,zAv,if_true,zAa,zAl]
  exact bad _ k13' (by rw[hfoi,q1];rfl)
 rw[zAg]
 refine zBT.2 ?_
 rw[zAQ,if_pos rfl,dn _ k13',zAa,svar]
 refine zAI (zAdl (by simp)) ?_
 rintro _ h15 ⟨rfl,k15⟩
 have k1215:=k13'.trans k15
 rw[zAv,if_neg (by decide),zAa]
 cases q2:zOq f.name [118,97,114]
 rotate_left
 ·simp only[zBT,zAQ,zAU,zAc,if_false,zAv,if_true,zAa,zAl]
  exact bad _ k1215 (by rw[hfoi,q1,q2];rfl)
 refine zBT.2 ?_
 rw[zAQ,if_pos rfl,dsz _ k1215,zAa,ltI,zAa]
 show Mpu (zBD (.bool false) (.bool true) _) _
 rw[zAv,if_neg (by decide),zAa]
 cases q3:decide (f.size<0)
 rotate_left
 ·simp only[zBT,zAQ,zAU,zAc,if_false,zAv,if_true,zAa,zAl]
  exact bad _ k1215 (by rw[hfoi,q1,q2,q3];rfl)
 refine zBT.2 ?_
 rw[zAQ,if_pos rfl,dsz _ k1215,zAa,gtI,zAa]
 show Mpu (zBD (.bool false) (.bool true) _) _
 rw[zAv,if_neg (by decide),zAa]
 cases q4:decide (f.size > 1048576)
 rotate_left
 ·simp only[zBT,zAQ,zAU,zAc,if_false,zAv,if_true,zAa,zAl]
  exact bad _ k1215 (by rw[hfoi,q1,q2,q3,q4];rfl)
 rw[zAl,if_neg (by decide),d7 _ (k3.trans (k312.trans k1215)),zAa,hlen,zAa]
 have hfoi2:zKh l i=(List.range l.length).all (zSU l i):=by rw[hfoi,q1,q2,q3,q4];rfl
 refine zKj (λu h'=>∃ j:Nat,j<=l.length/\u = .int .i64 (j:Nat)/\(List.range j).all (zSU l i)=true/\Keep zAK h15 h') (λu _=>match u with | .int _ t=>l.length-t.toNat|_=>0) ⟨0,zAz _,rfl,rfl,Keep.refl⟩ ?_
 rintro _ g ⟨j,hj,rfl,hallj,kg⟩ k21 hk21
 rw[zNZ,zAa,zAl]
 have k12g:=k1215.trans kg
 by_cases hltj:j<l.length
 rotate_left
 ·rw[if_neg (by simpa using hltj)]
  obtain rfl:j=l.length:=by omega
  exact hk9 _ _ _ _ _ ⟨by rw[hfoi2,hallj],k312.trans k12g⟩
 rw[if_pos (by simpa using hltj)]
 have hgj:l[j]? = some l[j]:=zAj hltj
 have hwj:=hwl _ (zAH hltj)
 have hapj:=hap j
 rw[zUA hgj]at hapj
 generalize l[j]=f2 at *
 obtain⟨b2,o2,hix2,hpt2,_⟩:=(hf.keep ((k13.trans k312).trans k12g) λ_ _=>id).at (i:=j) (x:=zEj f2) (by rw[zAq,hgj];rfl)
 rw[hix2 .i64,zAa,hpt2.agg (zDR hwj),zAa]
 generalize hH23:g.push (.cells (zEj ⟨[],List.replicate 32 0,0⟩).toArray zBn (0,0))=h23
 have k23:Keep zAK g h23:=by rw[<- hH23];exact Keep.push
 have a23:At h23 g.size (zEj ⟨[],List.replicate 32 0,0⟩):=by rw[<- hH23];exact At.push
 obtain⟨h24,st24,a24,k24⟩:=a23.st (n:=34) (ds:=zEj f2) (zDR zAfJ) (zDR hwj) zM5
 have gg:=kg.1
 have k1524:Keep zAK h15 h24:=(kg.trans k23).fresh k24 λb hb=>by omega
 have dn2:ld1 h24 (Ptr g.size 0)=some (str f2.name):=a24.ld rfl
 rw[st24,zAW,zAm0,zAa]
 cases q5:decide (i=j)
 ·refine zBT.2 ?_
  rw[zAf,zAQ,if_pos rfl,dn2,zAa,dn _ (k1215.trans k1524),zAa]
  have:=zAg3 q1
  refine zAI (zAdl (by omega)) ?_
  rintro _ h26 ⟨rfl,k26⟩
  rw[zAv,if_pos rfl,zAa,zAl]
  cases q6:zOq f2.name f.name
  ·rw[if_neg (by decide),zBV (by omega),zAa]
   exact hk21 _ _ ⟨j+1,by omega,rfl,zQu hallj (by rw[hapj,q5,q6];rfl),k1524.trans k26⟩ (by show l.length-(j+1)<l.length-j;omega)
  ·rw[if_pos rfl]
   exact bad _ (k1215.trans (k1524.trans k26)) (by rw[hfoi2];exact zR7 hltj (by rw[hapj,q5,q6];rfl))
 ·refine zBT.2 ?_
  rw[zAg,zAQ,if_neg (by decide)]
  show Mpu (zBD (.bool false) undef (.bool false)) _
  rw[zAv,if_neg (by decide),zAa,zAl,if_neg (by decide),zBV (by omega),zAa]
  exact hk21 _ _ ⟨j+1,by omega,rfl,zQu hallj (by rw[hapj,q5];rfl),k1524⟩ (by show l.length-(j+1)<l.length-j;omega)
def zEC (m:Man):Bool:=zY5 m&&zP4 m.files
theorem zR8 {P:zA1}{H:zAx}{m:Man}{vd vc vf:Value}(hv:zLd P H m vd vc vf)(hd:m.deps.length<=1099511627776)(hc:m.conf.length<=1099511627776)(hO:zQW H) :
  zAA prg zDh [.agg (zGN m vd vc vf).toArray] H λu H'=>u = .bool (zEC m)/\Keep zAK H H':=by
 apply zKn
 unfold zIh
 simp only[zB8,zBb]
 generalize hH1:H.push (.cells (zGN m vd vc vf).toArray zAe (0,0))=H1
 have k1:Keep zAK H H1:=by rw[<- hH1];exact Keep.push
 have a1:At H1 H.size (zGN m vd vc vf):=by rw[<- hH1];exact At.push
 have w:=hv.wf
 rw[zBf,zAa,zAu,zDz a1,zAa]
 refine zAI (zZ3 w.name) ?_
 rintro _ h2 ⟨rfl,k2⟩
 have a2:=a1.keep k2 id
 have k12:=k1.trans k2
 unfold zEC zY5
 cases h1:zJv m.name
 ·simp only[zA7,zAg,zAf,zAQ,zAU,zAv,zAl,zAa,if_true,if_false,zAb,zAc,decide_true,decide_false,reduceCtorEq,zBT,zEL,zEM,zEI,zEJ,zEK,zBp,zA8,zA2]
  exact⟨by trivial,k12⟩
 simp only[zBf,zAi,zHu a2 w,zA7,zAg,zAf,zAQ,zAU,zAv,zAl,zAa,if_true,if_false,zAb,zAc,decide_true,decide_false,reduceCtorEq,zBT,zEL,zEM,zEI,zEJ,zEK,zBp,zA8]
 refine zAI (zQl w.ver) ?_
 rintro _ h3 ⟨rfl,k3⟩
 have a3:=a2.keep k3 id
 have k13:=k12.trans k3
 cases h2:zG5 m.ver
 ·simp only[zA7,zAg,zAf,zAQ,zAU,zAv,zAl,zAa,if_true,if_false,zAb,zAc,decide_true,decide_false,reduceCtorEq,zBT,zEL,zEM,zEI,zEJ,zEK,zBp,zA8,zA2,zBG]
  exact⟨by trivial,k13⟩
 obtain⟨g5,g6,g7⟩:=zHv a3 w
 simp only[zBf,zAi,zUu a3 w,g5,zA7,zAg,zAf,zAQ,zAU,zAv,zAl,zAa,if_true,if_false,zAb,zAc,decide_true,decide_false,reduceCtorEq,zBT,zEL,zEM,zEI,zEJ,zEK,zBp,zA8]
 refine zAI (zAgV (hv.d.keep k13 λ_ _=>id) w.deps (hO.keep k13 λ_ h=>h.elim) hd) ?_
 rintro _ h4 ⟨rfl,k4⟩
 have a4:=a3.keep k4 id
 have k14:=k13.trans k4
 cases h3:zOo m.name m.deps
 ·simp only[zA7,zAg,zAf,zAQ,zAU,zAv,zAl,zAa,if_true,if_false,zAb,zAc,decide_true,decide_false,reduceCtorEq,zBT,zEL,zEM,zEI,zEJ,zEK,zBp,zA8,zA2,zBG]
  exact⟨by trivial,k14⟩
 obtain⟨g5,g6,g7⟩:=zHv a4 w
 simp only[zBf,zAi,zUu a4 w,g6,zA7,zAg,zAf,zAQ,zAU,zAv,zAl,zAa,if_true,if_false,zAb,zAc,decide_true,decide_false,reduceCtorEq,zBT,zEL,zEM,zEI,zEJ,zEK,zBp,zA8]
 refine zAI (zAgV (hv.c.keep k14 λ_ _=>id) w.conf (hO.keep k14 λ_ h=>h.elim) hc) ?_
 rintro _ h5 ⟨rfl,k5⟩
 have a5:=a4.keep k5 id
 have k15:=k14.trans k5
 cases h4:zOo m.name m.conf
 ·simp only[zA7,zAg,zAf,zAQ,zAU,zAv,zAl,zAa,if_true,if_false,zAb,zAc,decide_true,decide_false,reduceCtorEq,zBT,zEL,zEM,zEI,zEJ,zEK,zBp,zA8,zA2,zBG]
  exact⟨by trivial,k15⟩
 simp only[zUu a5 w,zA7,zAg,zAf,zAQ,zAU,zAv,zAl,zAa,if_true,if_false,zAb,zAc,decide_true,decide_false,reduceCtorEq,zBT,zEL,zEM,zEI,zEJ,zEK,zBp,zA8]
 refine zAI (zAfK (hv.keep k15 λ_ _=>id)) ?_
 rintro _ h6 ⟨rfl,k6⟩
 simp only[zA7,zAg,zAf,zAQ,zAU,zAv,zAl,zAa,if_true,if_false,zAb,zAc,decide_true,decide_false,reduceCtorEq,zBT,zEL,zEM,zEI,zEJ,zEK,zBp,zA8,zBa]
 exact⟨by trivial,k15.trans k6⟩
end Go.Proofs.YticdfkoncnnmmaaGreatDoor
