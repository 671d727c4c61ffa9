import Derived.Test.YticdfkoncnnmmaaGreatDoorG8
import Derived.Test.YticdfkoncnnmmaaGreatDoorH6
import Derived.Test.YticdfkoncnnmmaaGreatDoorGE
import Derived.Test.YticdfkoncnnmmaaGreatDoorH4
import Derived.Test.YticdfkoncnnmmaaGreatDoorG2
set_option linter.unusedSimpArgs false
set_option linter.unusedVariables false
set_option maxRecDepth 100000
namespace Go.X
def zAev (P:Program)(fv:Value)(Nx:List (List Value)->List Value->Prop)(Dn:List (List Value)->Prop)(Sw Sr:Nat->Prop)(St:zAd->Prop):Prop :=
 ∀ (yv:Value) (h0:zAd) (J:List (List Value)->(Nat->Prop)->zAd->Prop) (E:zAd->Prop),St h0->J [] (fun _=>False) h0 ->
  (∀ (tr:List (List Value)) (x:List Value) (Z:Nat->Prop) (h:zAd),Nx tr x->J tr Z h->zBF P yv x h fun v h'=>h.size<=h'.size/\(∀ b,Sr b\/Z b->b<h.size->h'[b]? = h[b]?)/\((v = .bool true/\J (tr++[x]) Z h')\/(v = .bool false/\E h'))) ->
  (∀ tr Z Z' h h',J tr Z h->Keep (fun b=>Sw b\/Z b) h h'->(∀ b,Z' b->Z b\/(h.size<=b/\b<h'.size))->J tr Z' h')->(∀ h h',E h->Keep Sw h h'->E h') ->
  zYl P fv [yv] h0 fun _ h=>(∃ tr Z,Dn tr/\J tr Z h)\/E h
theorem zZK {P:Program}{n0:Nat}{fv:Value}{H:zAd}{B:List Value->zAd->(Option Code->zAd->Prop)->Prop}{rest:Option Code->zAd->Prop}
  {Nx:List (List Value)->List Value->Prop} {Dn:List (List Value)->Prop} {Sw Sr:Nat->Prop} {St:zAd->Prop} (hit:zAev P fv Nx Dn Sw Sr St) (hst:∀ o o',St ((H.push o).push o')) (hn:n0<=H.size)
  (Inv:List (List Value)->(Nat->Prop)->zAd->Prop) (Ex:Code->zAd->Prop) (h0:Inv [] (fun _=>False) H)
  (sI:∀ tr Z Z' h h',Inv tr Z h->H.size<=h.size->Keep (fun b=>Sw b\/Z b\/b=H.size\/b=H.size+1) h h'->(∀ b,Z' b->Z b\/(h.size<=b/\b<h'.size))->Inv tr Z' h')
  (sE:∀ c h h',Ex c h->H.size<=h.size->Keep (fun b=>Sw b\/b=H.size\/b=H.size+1) h h'->Ex c h')
  (hSw:∀ b,Sw b->b<H.size) (hSr:∀ b,Sr b->b<H.size)
  (hB:∀ (tr:List (List Value)) (x:List Value) (Z:Nat->Prop) (h:zAd) (r:Loop),H.size+2<=h.size->Nx tr x->(∀ b,Z b->H.size+2<=b)->Inv tr Z h->h[H.size+1]? = some (.loop r)->r.state = .ready ->
   ∀ K:Option Code->zAd->Prop,(∀ h',Keep (fun b=>¬ (Sr b\/Z b\/b=H.size\/b=H.size+1)) (h.setIfInBounds (H.size+1) (.loop { r with state := .busy })) h'->Inv (tr++[x]) Z h'->K none h') ->
    (∀ c h',Keep (fun b=>¬ (Sr b\/Z b\/b=H.size\/b=H.size+1)) (h.setIfInBounds (H.size+1) (.loop { r with state := .busy })) h'->Ex c h'->K (some c) h')->B x h K)
  (hrest:∀ tr Z h,H.size<=h.size->Dn tr->Inv tr Z h->rest none h) (hexit:∀ c h,H.size<=h.size->Ex c h->rest (some c) h):zPJ P n0 fv H B rest:=by
 refine⟨hn,fun rec hr hp hyield=>?_⟩
 have hL:((H.push (.deferred (some []))).push (.loop rec))[H.size+1]? = some (.loop rec):=by
  have:=zAR (H:=H.push (.deferred (some []))) (y := .loop rec)
  rwa [show(H.push (.deferred (some []))).size=H.size+1 by simp]at this
 have hSL:¬ Sw (H.size+1):=fun h=>by have:=hSw _ h;omega
 have hSL2:¬ Sr (H.size+1):=fun h=>by have:=hSr _ h;omega
 have main:=hit (.func (.yield (H.size+1)) #[] #[]) ((H.push (.deferred (some []))).push (.loop rec)) (fun tr Z h=>Inv tr Z h/\h[H.size+1]? = some (.loop rec)/\∀ b,Z b->H.size+2<=b)
  (fun h=>∃ c,Ex c h/\∃ r,h[H.size+1]? = some (.loop r)/\r.state = .done/\r.pending=some c) (hst _ _)
  ⟨sI _ _ _ _ _ h0 (Nat.le_refl _) ((Keep.push (S:=fun b=>Sw b\/False\/b=H.size\/b=H.size+1)).trans Keep.push) (fun _ h=>h.elim),hL,fun _ h=>h.elim⟩ ?_
  (fun tr Z Z' h h' ⟨h1,h2,h3⟩ k hz=>⟨sI _ _ _ _ _ h1 (by have:=lt_of h2;omega) (k.mono fun _ _ h=>h.elim .inl fun h => .inr (.inl h)) hz,k.at h2 (fun h=>h.elim hSL fun h=>by have:=h3 _ h;omega),fun b hb=>(hz b hb).elim (h3 b) fun h=>by have:=lt_of h2;omega⟩)
  (fun h h' ⟨c,h1,r,h2,h3⟩ k=>⟨c,sE _ _ _ h1 (by have:=lt_of h2;omega) (k.mono fun _ _ h => .inl h),r,k.at h2 hSL,h3⟩)
 ·obtain⟨f,fi,ca,e1,e2,hc⟩:=main
  refine⟨f,fi,ca,e1,e2,fun w hw=>(hc w hw).mono fun e w'=>?_⟩
  rintro⟨v,he,hs,hJ⟩
  refine⟨v,he,hs,?_⟩
  rcases hJ with ⟨tr,Z,hD,hI,hl,hz⟩ | ⟨c,hE,r,hl,hd,hpend⟩
  ·refine⟨rec,hl,by rw[hr];decide,?_⟩
   rw[hp]
   have:=lt_of hl
   refine hrest tr Z _ ?_ hD (sI _ _ _ _ _ hI (by omega) (Keep.set (.inr (.inr (.inr rfl)))) fun b hb => .inl hb)
   simp;omega
  ·refine⟨r,hl,by rw[hd];decide,?_⟩
   rw[hpend]
   have:=lt_of hl
   refine hexit _ _ ?_ (sE _ _ _ hE (by omega) (Keep.set (.inr (.inr rfl))))
   simp;omega
 ·rintro tr x Z h hx ⟨hI,hl,hz⟩
  have hlt:=lt_of hl
  have hZL:¬ Z (H.size+1):=fun h=>by have:=hz _ h;omega
  refine .inr ⟨H.size+1,#[],#[],rfl,hyield _ _ _ hl (hB tr x Z h rec (by omega) hx hz hI hl hr _ ?_ ?_)⟩
  ·intro h' k hI'
   have hl':=k.at (zAt (y := .loop { rec with state := .busy }) hl) (fun h=>h (.inr (.inr (.inr rfl))))
   have hsize:h.size<=h'.size:=by have:=k.1;simpa using this
   refine⟨_,hl',by simpa using hsize,fun b hb hlt=>?_,.inl ⟨rfl,?_,?_,hz⟩⟩
   ·have hne:H.size+1≠b:=fun e=>hb.elim (fun h=>hSL2 (e ▸ h)) fun h=>hZL (e ▸ h)
    rw[Array.getElem?_setIfInBounds,if_neg hne,k.2 b (by simpa using hlt) (fun hw=>hw (hb.elim .inl fun h => .inr (.inl h))),Array.getElem?_setIfInBounds,if_neg hne]
   ·have:=lt_of hl'
    exact sI _ _ _ _ _ hI' (by omega) (Keep.set (.inr (.inr (.inr rfl)))) fun b hb => .inl hb
   ·rw[zAt hl']
    congr 2
    cases rec;simp only at hr hp;subst hr hp;rfl
  ·intro c h' k hE
   have hl':=k.at (zAt (y := .loop { rec with state := .busy }) hl) (fun h=>h (.inr (.inr (.inr rfl))))
   have hsize:h.size<=h'.size:=by have:=k.1;simpa using this
   have:=lt_of hl'
   refine⟨_,hl',by simpa using hsize,fun b hb hlt=>?_,.inr ⟨rfl,c,sE _ _ _ hE (by omega) (Keep.set (.inr (.inr rfl))),_,zAt hl',rfl,rfl⟩⟩
   have hne:H.size+1≠b:=fun e=>hb.elim (fun h=>hSL2 (e ▸ h)) fun h=>hZL (e ▸ h)
   rw[Array.getElem?_setIfInBounds,if_neg hne,k.2 b (by simpa using hlt) (fun hw=>hw (hb.elim .inl fun h => .inr (.inl h))),Array.getElem?_setIfInBounds,if_neg hne]
end Go.X
namespace Go.Proofs.YticdfkoncnnmmaaGreatDoor
open Go.X Go.X.Diff
theorem zXp.len {H:zAd}{r q:Nat}{es:List (Value×Value)}{vis:List Nat}(h:zXp H r q es vis):vis.length<=es.length:=by
 obtain⟨arr,clock,seen,_,he,_,_,_,_,hv,hl,_⟩:=h
 have hn:es.length=arr.size:=by rw[<- he];simp
 rw[hn]
 exact zSY _ hv hl
theorem zAhz:prg.underlying zBd=some (.map zAz zAz):=by kernel_rfl
def zAcO (ks:List (List UInt8))(tr:List (List Value))(x:List Value):Prop:=(∃ k ∈ ks,x=[str k]/\x ∉ tr)/\tr.length<ks.length
def zAcP (ks:List (List UInt8))(tr:List (List Value)):Prop:=tr.Nodup/\(∀ x ∈ tr,∃ k ∈ ks,x=[str k])/\∀ k ∈ ks,[str k] ∈ tr
theorem zZL {q r:Nat}{l:List (List UInt8×List UInt8)}(hnd:(l.map (·.1)).Nodup) :
  zAev prg (.func (.func zAE) #[] #[Ptr r 0]) (zAcO (l.map (·.1))) (zAcP (l.map (·.1))) (fun _=>False) (fun b=>b=q\/b=r) (fun h=>At h r [.map (some q)]/\zWB h q l):=by
 rintro yv h0 J E ⟨ar,hm⟩ hJ hbody sJ sE
 refine⟨zAE,#[],#[Ptr r 0],rfl,by kernel_rfl,?_⟩
 show zAg prg zAE [yv,Ptr r 0] h0 _
 apply zDk
 unfold zBV
 rw[ar.ld (i:=0) rfl,zAa]
 refine zAbC zAhz hm fun h1 hI k1=>?_
 have hr:r≠h0.size:=by have:=ar.lt;omega
 have hq:q≠h0.size:=by obtain⟨_,_,hb,_⟩:=hm;have:=lt_of hb;omega
 have hg1:=k1.1
 have hit1:h0.size<h1.size:=by obtain⟨_,_,_,_,_,_,_,h5,_⟩:=hI;exact lt_of h5
 let key:Nat->List Value:=fun i=>[str (l.getD i ([],[])).1]
 let I:zAd->Prop:=fun h=>∃ vis,zXp h h0.size q (l.map fun e=>(str e.1,str e.2)) vis/\At h r [.map (some q)]/\J (vis.map key) (· = h0.size) h
 have hkey:∀ {i:Nat} {x:Value×Value},(l.map fun e=>(str e.1,str e.2))[i]? = some x->key i=[x.1]/\∃ k ∈ l.map (·.1),key i=[str k]:=fun {i x} hx=>by
  rw[List.getElem?_map]at hx
  obtain⟨e,he,rfl⟩:=Option.map_eq_some_iff.1 hx
  have:l.getD i ([],[])=e:=by rw[List.getD,he];rfl
  refine⟨by show [str _]=_;rw[this],e.1,List.mem_map.2 ⟨e,List.mem_of_getElem? he,rfl⟩,by show [str _]=_;rw[this]⟩
 have hinj:∀ {i j:Nat},i<l.length->j<l.length->key i=key j->i=j:=fun {i j} hi hj e=>by
  have e1:(l.getD i ([],[])).1=(l.getD j ([],[])).1:=by
   have e0:[str (l.getD i ([],[])).1]=[str (l.getD j ([],[])).1]:=e
   exact zPA (by simpa using e0)
  have hp:=List.pairwise_iff_getElem.1 (List.pairwise_map.1 (List.nodup_iff_pairwise_ne.1 hnd))
  have gi:l.getD i ([],[])=l[i]:=by simp[List.getD,hi]
  have gj:l.getD j ([],[])=l[j]:=by simp[List.getD,hj]
  rw[gi,gj]at e1
  rcases Nat.lt_trichotomy i j with h | h | h
  ·exact absurd e1 (hp i j hi hj h)
  ·exact h
  ·exact absurd e1.symm (hp j i hj hi h)
 refine L0_i I (fun h=>match h[h0.size]? with | some (.mapIter _ _ seen _)=>l.length - seen.size | _=>0) ⟨[],hI,ar.keep k1 id,sJ _ _ _ _ _ hJ (k1.mono fun _ _ h=>h.elim) fun b hb => .inr (by subst hb;exact⟨Nat.le_refl _,hit1⟩)⟩ ?_
 rintro h3 ⟨vis,hI3,ar3,hJ3⟩ k2 hk2
 have hlen3:=hI3.len
 rw[List.length_map]at hlen3
 have hvb:∀ i ∈ vis,i<l.length:=fun i hi=>by
  obtain⟨arr,_,_,_,he,_,_,_,_,_,hl',_⟩:=hI3
  have:=hl' i hi
  have hn:=congrArg List.length he
  rw[List.length_map,List.length_map]at hn
  rw[<- hn];simpa using this
 have hvn:vis.Nodup:=by obtain⟨_,_,_,_,_,_,_,_,_,h,_⟩:=hI3;exact h
 refine zAei hI3 (fun i x hx hnv h4 hI4 k4=>?_) fun hall=>?_
 ·have hil:i<l.length:=by have:=(List.getElem?_eq_some_iff.1 hx).1;simpa using this
  obtain⟨hk1,kk,hkm,hk2'⟩:=hkey hx
  rw[show zDy 0 (.tuple #[.bool true,x.1,x.2])=some (.bool true) from rfl,zAa,zAc,if_pos rfl]
  refine zAbD hI4 hx ?_
  rw[show zDy 0 (.tuple #[x.1,x.2])=some x.1 from rfl,zAa,<- hk1]
  have hJ4:J (vis.map key) (· = h0.size) h4:=sJ _ _ _ _ _ hJ3 (k4.mono fun _ _ h => .inr h) fun b hb => .inl hb
  have ar4:=ar3.keep k4 hr
  have hnx:zAcO (l.map (·.1)) (vis.map key) (key i):=⟨⟨kk,hkm,hk2',fun hm=>by
   obtain⟨j,hj,e⟩:=List.mem_map.1 hm
   exact hnv (hinj (hvb j hj) hil e ▸ hj)⟩,by
   have:=hI4.len
   rw[List.length_append,List.length_singleton,List.length_map]at this
   rw[List.length_map,List.length_map];omega⟩
  refine(hbody _ _ _ h4 hnx hJ4).mono ?_
  rintro v h6 ⟨hsz,hS,hv⟩
  have k46:Keep (fun b=>¬ ((b=q\/b=r)\/b=h0.size)) h4 h6:=⟨hsz,fun b hb hn=>hS b (Classical.not_not.1 hn) hb⟩
  rcases hv with ⟨rfl,hJ6⟩ | ⟨rfl,hE⟩
  ·rw[zAq,zAa,zAc,if_neg (by decide)]
   have hI6:=hI4.keep k46 (fun h=>h (.inr rfl)) (fun h=>h (.inl (.inl rfl)))
   refine hk2 _ ⟨vis++[i],hI6,ar4.keep k46 (fun h=>h (.inl (.inr rfl))),by rw[List.map_append];exact hJ6⟩ ?_
   have size_of:∀ {h:zAd} {vis:List Nat},zXp h h0.size q (l.map fun e=>(str e.1,str e.2)) vis->∃ m s seen c,h[h0.size]? = some (.mapIter m s seen c)/\seen.size=vis.length:=fun hI=>by
    obtain⟨_,c,seen,_,_,_,_,h5,_,_,_,_,hsv⟩:=hI
    refine⟨_,_,seen,_,h5,?_⟩
    have:=congrArg List.length hsv
    simpa using this
   obtain⟨m,s,seen,c,e1,e2⟩:=size_of hI3
   obtain⟨m',s',seen',c',e1',e2'⟩:=size_of hI6
   have hl6:=hI6.len
   rw[List.length_map]at hl6
   rw[e1,e1']
   show l.length - seen'.size<l.length - seen.size
   rw[e2,e2',List.length_append,List.length_singleton]
   rw[List.length_append,List.length_singleton]at hl6
   omega
  ·rw[zAq,zAa,zAc,if_pos (by rfl)]
   exact .inr hE
 ·rw[show zDy 0 (.tuple #[.bool false])=some (.bool false) from rfl,zAa,zAc,if_neg (by decide)]
  refine .inl ⟨_,_,⟨?_,fun x hx=>?_,fun k hk=>?_⟩,hJ3⟩
  ·rw[List.nodup_iff_pairwise_ne,List.pairwise_map]
   exact(List.nodup_iff_pairwise_ne.1 hvn).imp_of_mem fun {a b} ha hb hne e=>hne (hinj (hvb a ha) (hvb b hb) e)
  ·obtain⟨i,hi,rfl⟩:=List.mem_map.1 hx
   have hil:=hvb i hi
   obtain⟨_,kk,hkm,e⟩:=hkey (i:=i) (x:=(str l[i].1,str l[i].2)) (by rw[List.getElem?_map,List.getElem?_eq_getElem hil];rfl)
   exact⟨kk,hkm,e⟩
  ·obtain⟨e,he,rfl⟩:=List.mem_map.1 hk
   obtain⟨i,hi,rfl⟩:=List.getElem_of_mem he
   refine List.mem_map.2 ⟨i,hall i (by simpa using hi),?_⟩
   show [str (l.getD i ([],[])).1]=_
   have gi:l.getD i ([],[])=l[i]:=by simp[List.getD,hi]
   rw[gi]
open Go.Sort (swp PermIn SortedIn Below SWO)
theorem zAbN {a b:List UInt8}:less a b=decide (zK6 a b<0):=by
 unfold zK6
 cases h:less a b
 ·rw[if_neg (by decide)]
  split <;> simp
 ·simp
theorem zS4:SWO less:=by
 have:less=fun a b=>decide (zK6 a b<0):=by funext a b;exact zAbN
 rw[this];exact zZC zEL id
theorem zAgd {H:zAd}{a b:List UInt8}:zAg prg zId [str a,str b] H fun u H'=>u = .bool (less a b)/\Keep (fun _=>False) H H':=by
 apply zLr
 unfold zKF
 refine zAk zVo ?_
 rintro _ _ ⟨rfl,rfl⟩
 refine zJe (by decide) ?_
 refine zJf.2 ?_
 refine zBM rfl ?_
 rw[show zAh .no .lss (str a) (str b)=some (.bool (less a b)) from by rw[zEI];simp only[zP4,zJV],zAa]
 show Mpu (zAC (.bool false) (.bool true) (.bool (less a b))) _
 rw[zAe,if_neg (by decide),zAa]
 exact⟨rfl,Keep.refl⟩
theorem zAcQ {H:zAd}{u:Nat}(hu:u<1000000):zAg prg zCJ [.int .u64 (u:Nat)] H fun v H'=>(∃ m:Nat,v = .int .i64 (m:Nat)/\m<=1000)/\H=H':=by
 by_cases h0:0<u
 ·refine zAg.mono (zZA h0 hu) ?_
  intro v h hR
  obtain⟨m,h1,h2,h3⟩:=zZE hu hR
  exact⟨⟨m,h1,h2⟩,h3⟩
 obtain rfl:u=0:=by omega
 apply zE6
 unfold zGC
 rw[zAc,if_neg (by decide)]
 refine zAk (R:=fun v H'=>(∃ m:Nat,v = .int .i64 (m:Nat)/\m<=1000)/\H=H') ?_ fun v h hR=>hR
 apply zCX
 unfold zDV
 have g1:zAh .no .geq (.int .u64 ((0:Nat):Int)) (.int .u64 4294967296)=some (.bool false):=rfl
 have g2:zAh .no .geq (.int .u64 ((0:Nat):Int)) (.int .u64 65536)=some (.bool false):=rfl
 have g3:zAh .no .geq (.int .u64 ((0:Nat):Int)) (.int .u64 256)=some (.bool false):=rfl
 simp only[zYq,g1,g2,g3,zAa,zAc,Bool.false_eq_true,if_false]
 have:=zU7 (x:=0) (by omega)
 exact zNi (R:=fun v _=>(∃ m:Nat,v = .int .i64 (m:Nat)/\m<=1000)/\True) (H:=H) (off:=0) (x:=0) (by omega) (by omega) ⟨⟨_,rfl,by omega⟩,trivial⟩
theorem zZM {F:Nat->Prop}{H:zAd}{v:Value}{l:List (List UInt8)}(hv:BufE 1 F H v (zOh l))(hF:∀ b,F b->b<H.size)(hl:l.length<=900000) :
  zAg prg zCZ [v] H fun _ H'=>(∃ l':List (List UInt8),l'.Perm l/\l'.Pairwise (fun x y=>less y x=false)/\BufE 1 F H' v (zOh l'))/\Keep F H H':=by
 apply zGv
 unfold zEz
 have hlen:=hv.sl.len
 rw[zLS]at hlen
 let enc:List UInt8->List Value:=fun a=>[str a]
 have he:l.map enc=zOh l:=by simp[zFB,enc]
 have ok:zGx zSb enc (Ev1 enc) less (fun _=>True) F v:=⟨fun hr _ hi=>zQe hr hi,fun hr _ _ hi hj=>zUj hr hi hj,fun {x y h K} hg hk=>by
  refine zAg.mono (zAgd (a:=x) (b:=y)) ?_
  rintro _ h' ⟨rfl,k⟩
  exact hk h' k⟩
 rw[hlen,zAa,zZD (by omega),zAa]
 refine zAk (zAcQ (by omega)) ?_
 rintro _ _ ⟨⟨m,rfl,hm⟩,rfl⟩
 refine zAk (zVs zVq ok zS4 (l:=l) (m:=m) (by rw[he];exact hv) (fun _ _=>trivial) hF hl hm) ?_
 rintro _ H' ⟨⟨l',h1,h2,h3⟩,k⟩
 exact⟨⟨l',h1,h2,by rw[show zOh l'=l'.map enc by simp[zFB,enc]];exact h3⟩,k⟩
theorem BufE.closed {n n0:Nat}{F:Nat->Prop}{h h':zAd}{v:Value}{xs:List (List Value)}(b:BufE n F h v xs)(c:zL0 n0 h h'):BufE n F h' v xs:=by
 obtain⟨h1,h2,h3 | ⟨b,o,k,cs,T,f,e,hf,hk,hb,hr⟩⟩:=b
 ·exact⟨h1,h2,.inl h3⟩
 ·exact⟨h1,h2,.inr ⟨b,o,k,cs,T,f,e,hf,hk,c.2.2 _ _ hb (fun ds e=>by cases e),hr⟩⟩
theorem zZN {ks:List (List UInt8)}(hk:ks.Nodup){tr:List (List Value)}(h:zAcP ks tr):∃ l:List (List UInt8),tr=zOh l/\l.Perm ks:=by
 obtain⟨h1,h2,h3⟩:=h
 have:∃ l:List (List UInt8),tr=zOh l:=by
  clear h1 h3
  induction tr with
  | nil=>exact⟨[],rfl⟩
  | cons x tr ih =>
   obtain⟨l,rfl⟩:=ih fun y hy=>h2 y (by simp[hy])
   obtain⟨k,_,rfl⟩:=h2 x (by simp)
   exact⟨k :: l,by simp[zFB]⟩
 obtain⟨l,rfl⟩:=this
 refine⟨l,rfl,?_⟩
 have hn:l.Nodup:=by
  have e:zOh l=l.map fun a=>[str a]:=by simp[zFB]
  rw[e,List.nodup_iff_pairwise_ne,List.pairwise_map]at h1
  exact List.nodup_iff_pairwise_ne.2 (h1.imp fun {a b} h e=>h (by rw[e]))
 have hm:∀ a,a ∈ l↔a ∈ ks:=fun a=>by
  constructor
  ·intro ha
   obtain⟨k,hk',e⟩:=h2 [str a] (by simpa [zFB] using ha)
   have:a=k:=zPA (by simpa using e)
   rw[this];exact hk'
  ·intro ha
   have:=h3 a ha
   simpa [zFB] using this
 exact(List.perm_ext_iff_of_nodup hn hk).2 hm
theorem zQ7 {H:zAd}{q r:Nat}{l:List (List UInt8×List UInt8)}(hnd:(l.map (·.1)).Nodup)(hl:l.length<=1000000)(ar:At H r [.map (some q)])(hm:zWB H q l) :
  zAg prg zB8 [.slice none 0 0,.func (.func zAE) #[] #[Ptr r 0]] H fun u H'=>(∃ ks:List (List UInt8),ks.Perm (l.map (·.1))/\BufE 1 (fun b=>H.size<=b/\b<H'.size) H' u (zOh ks))/\Keep (fun _=>False) H H':=by
 apply zE7
 unfold zDx
 have ec:Value.cells (.slice none 0 0)=[Value.slice none 0 0].toArray:=rfl
 rw[ec,zAs]
 generalize hH1:H.push (.cells [Value.slice none 0 0].toArray zRO (0,0))=H1
 have k1:Keep (fun _=>False) H H1:=by rw[<- hH1];exact Keep.push
 have a1:At H1 H.size [.slice none 0 0]:=by rw[<- hH1];exact At.push
 have s1:H1.size=H.size+1:=by rw[<- hH1];simp
 have hq:q<H.size:=by obtain⟨_,_,hb,_⟩:=hm;exact lt_of hb
 let Inv:List (List Value)->(Nat->Prop)->zAd->Prop:=fun tr Z h=>(∃ u F,At h H.size [u]/\BufE 1 F h u tr/\∀ b,F b->H1.size+2<=b/\b<h.size/\¬ Z b)/\(∀ b,Z b->H1.size<=b/\b<h.size)/\Keep (fun _=>False) H h/\tr.length<=l.length
 have hz:zAB prg zAz=some [str []].toArray:=zAbr
 have hr:r<H.size:=ar.lt
 refine zZK (n0:=H.size) (zZL (q:=q) (r:=r) hnd) (fun o o'=>?_) (by omega) Inv (fun _ _=>False) ⟨⟨_,fun _=>False,a1,BufE.nil,fun b hb=>hb.elim⟩,fun b hb=>hb.elim,k1,Nat.zero_le _⟩ ?_ (fun _ _ _ h=>h.elim) (fun b hb=>hb.elim) (fun b hb=>by rcases hb with rfl | rfl <;> omega) ?_ ?_ (fun _ _ _ h=>h.elim)
 ·have kk:Keep (fun _=>False) H ((H1.push o).push o'):=(k1.trans Keep.push).trans Keep.push
  exact⟨ar.keep kk id,hm.keep kk id⟩
 ·rintro tr Z Z' h h' ⟨⟨u,F,au,hb,hF⟩,hZ,kh,hlen⟩ hsz k hz'
  have hsz':=k.1
  refine⟨⟨u,F,au.keep k (fun hh=>?_),hb.keep k fun b hb hh=>?_,fun b hb=>⟨(hF b hb).1,by have:=(hF b hb).2.1;omega,fun hh=>(hz' b hh).elim (hF b hb).2.2 fun h=>by have:=(hF b hb).2.1;omega⟩⟩,fun b hb=>(hz' b hb).elim (fun h=>by have:=hZ b h;omega) fun h=>by omega,kh.fresh k fun b hb=>?_,hlen⟩
  ·rcases hh with hh | hh | hh | hh
   ·exact hh
   ·have:=hZ _ hh;omega
   ·omega
   ·omega
  ·have:=hF b hb
   rcases hh with hh | hh | hh | hh
   ·exact hh
   ·exact this.2.2 hh
   ·omega
   ·omega
  ·rcases hb with hb | hb | hb | hb
   ·exact hb.elim
   ·have:=hZ b hb;omega
   ·omega
   ·omega
 ·rintro tr x Z h3 rl hsz ⟨⟨k,hk,rfl,hn⟩,hlt⟩ hZ2 ⟨⟨u,F,au,hb,hF⟩,hZ,kh,hlen⟩ hl3 hst K hK _
  refine⟨rfl,rl,hl3,hst,?_⟩
  generalize hH7:h3.setIfInBounds (H1.size+1) (.loop { rl with state := .busy })=h7
  have k7:Keep (· = H1.size+1) h3 h7:=by rw[<- hH7];exact Keep.set rfl
  have au7:=au.keep k7 (by omega)
  have hb7:=hb.keep k7 fun b hb e=>by have:=(hF b hb).1;omega
  have e7:h7.size=h3.size:=by rw[<- hH7];simp
  have hbs:zFt prg zAz 1 [(0,str k)]=some #[str k]:=zAg5
  rw[au7.ld (i:=0) rfl,zAa]
  show zC5 h7 zAz 1 (zFt prg zAz 1 [(0,str k)]) _
  rw[hbs,zAV]
  generalize hH8:h7.push (.cells #[str k] zAz (0,0))=h8
  have k8:Keep (fun _=>False) h7 h8:=by rw[<- hH8];exact Keep.push
  have hx8:SlE 1 (· = h7.size) h8 (.slice (some ⟨h7.size,0,none⟩) 1 1) [[str k]]:=⟨⟨_,1,rfl,Nat.le_refl _,.inr ⟨h7.size,0,rfl,rfl,by show Pt h8 h7.size 0 [str k];rw[<- hH8];exact Pt.of zAR⟩⟩,fun x hx=>by simp at hx;subst hx;rfl,fun x hx c hc=>by simp at hx;subst hx;simp at hc;subst hc;rfl⟩
  have g8:=k8.1
  rw[List.length_map]at hlt
  refine((hb7.keep k8 fun _ _=>id).mono (G:=fun b=>F b\/h8.size<=b) fun b hb => .inl hb).app hx8 (by omega) (by rw[List.length_singleton];omega) (.inr (Nat.le_refl _)) fun t h9 hb9 k9=>?_
  have g9:=k9.1
  have au9:=(au7.keep k8 id).keep k9 (fun hh=>hh.elim (fun hh=>by have:=(hF _ hh).1;omega) fun hh=>by have:=au7.lt;omega)
  have ht1:t.oneCell'=true:=hb9.sl.oneC
  obtain⟨h10,w10,a10,k10⟩:=au9.st1 (i:=0) (v:=t) (by simp) ht1
  rw[w10,zAm]
  have hF9:∀ b,(F b\/h8.size<=b)->b≠H.size:=fun b hb e=>by
   subst e
   rcases hb with hb | hb
   ·have:=(hF _ hb).1;omega
   ·have:=au7.lt;omega
  have g10:=k10.1
  refine hK _ ?_ ⟨⟨t,fun b=>(F b\/h8.size<=b)/\b<h9.size,a10,(BufE.re hb9 fun b hb hF=>⟨hF,hb⟩).keep k10 fun b hb e=>hF9 b hb.1 e,fun b hb=>⟨hb.1.elim (fun h=>(hF b h).1) fun h=>by omega,by have:=k10.1;omega,fun hh=>?_⟩⟩,fun b hb=>⟨(hZ b hb).1,by have:=(hZ b hb).2;omega⟩,?_,by rw[List.length_append,List.length_singleton];omega⟩
  ·let W:Nat->Prop:=fun b=>¬ ((b=q\/b=r)\/Z b\/b=H1.size\/b=H1.size+1)
   have c8:Keep W h7 h8:=k8.mono fun _ _ h=>h.elim
   have c9:Keep W h8 h9:=k9.mono fun b hlt hb hh=>by
    have hb1:H1.size+2<=b/\¬ Z b:=hb.elim (fun h=>⟨(hF b h).1,(hF b h).2.2⟩) fun h=>⟨by omega,fun hz=>by have:=hZ b hz;omega⟩
    rcases hh with (hh | hh) | hh | hh | hh
    ·omega
    ·omega
    ·exact hb1.2 hh
    ·omega
    ·omega
   have c10:Keep W h9 h10:=k10.mono fun b hlt hb hh=>by
    rcases hh with (hh | hh) | hh | hh | hh
    ·omega
    ·omega
    ·have:=hZ _ hh;omega
    ·omega
    ·omega
   rw[hH7]
   exact(c8.trans c9).trans c10
  ·rcases hb.1 with h | h
   ·exact(hF b h).2.2 hh
   ·have:=hZ b hh;omega
  ·exact((((kh.fresh k7 fun b hb=>by omega).trans k8).fresh k9 fun b hb=>hb.elim (fun h=>by have:=(hF b h).1;omega) fun h=>by omega)).fresh k10 fun b hb=>by omega
 ·rintro tr Z h6 hsz hD ⟨⟨u,F,au,hb,hF⟩,hZ,kh,hlen⟩
  refine .inl ⟨rfl,?_⟩
  rw[au.ld (i:=0) rfl,zAa]
  refine zSP fun h11 hc=>?_
  obtain⟨ks,rfl,hp⟩:=zZN hnd hD
  refine⟨⟨ks,hp,?_⟩,zFI kh hc⟩
  have hz1:=hc.1
  exact(BufE.closed hb hc).mono fun b hb=>by have:=hF b hb;omega
theorem zUq {H:zAd}{q:Nat}{l:List (List UInt8×List UInt8)}{k:Value->zAd->Prop}(hnd:(l.map (·.1)).Nodup)(hl:l.length<=900000)(hm:zWB H q l)
  (hk:∀ (u:Value) (ks:List (List UInt8)) (H':zAd),ks.Perm (l.map (·.1))->BufE 1 (fun b=>H.size<=b/\b<H'.size) H' u (zOh ks)->Keep (fun _=>False) H H'->k u H') :
  zAp prg zBp [.map (some q)] H fun t13 h1=>zAp prg zE4 [t13] h1 fun t14 h2=>k t14 h2:=by
 refine zAk (R:=fun u H'=>u = .func (.func zAE) #[] #[Ptr H.size 0]/\At H' H.size [.map (some q)]/\Keep (fun _=>False) H H') ?_ ?_
 ·apply zDA
  unfold zCb
  have ec:Value.cells (.map (some q))=[Value.map (some q)].toArray:=rfl
  rw[ec,zAs]
  exact⟨rfl,At.push,Keep.push⟩
 rintro _ h1 ⟨rfl,a1,k1⟩
 have g1:=k1.1
 refine zAk (R:=fun u H'=>(∃ ks:List (List UInt8),ks.Perm (l.map (·.1))/\BufE 1 (fun b=>h1.size<=b/\b<H'.size) H' u (zOh ks))/\Keep (fun _=>False) h1 H') ?_ ?_
 ·apply zJc
  unfold zHG
  refine zAk (R:=fun u H'=>(∃ ks:List (List UInt8),ks.Perm (l.map (·.1))/\BufE 1 (fun b=>h1.size<=b/\b<H'.size) H' u (zOh ks))/\Keep (fun _=>False) h1 H') ?_ ?_
  ·apply zIS
   unfold zG1
   exact zAk (zQ7 hnd (by omega) a1 (hm.keep k1 id)) fun _ _ h=>h
  rintro u h2 ⟨⟨ks,hp,hb⟩,k2⟩
  have hln:=hp.length_eq
  rw[List.length_map]at hln
  refine zAk (zZM hb (fun b hb=>hb.2) (by omega)) ?_
  rintro _ h3 ⟨⟨l',p1,_,hb3⟩,k3⟩
  have g3:=k3.1
  exact⟨⟨l',p1.trans hp,hb3.mono fun b hb=>⟨hb.1,by omega⟩⟩,k2.fresh k3 fun b hb=>hb.1⟩
 rintro u h2 ⟨⟨ks,hp,hb⟩,k2⟩
 exact hk u ks h2 hp (hb.mono fun b hb=>⟨by omega,hb.2⟩) (k1.trans k2)
end Go.Proofs.YticdfkoncnnmmaaGreatDoor
