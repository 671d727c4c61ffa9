import Derived.Test.YticdfkoncnnmmaaGreatDoorG8
import Derived.Test.YticdfkoncnnmmaaGreatDoorH4
import Derived.Test.YticdfkoncnnmmaaGreatDoorGE
import Derived.Test.YticdfkoncnnmmaaGreatDoorG1
set_option linter.unusedSimpArgs false
set_option linter.unusedVariables false
set_option maxRecDepth 100000
namespace Go.X
def zAiW (P:Program)(fv:Value)(Nx:List (List Value)->List Value->Prop)(Dn:List (List Value)->Prop)(Sw Sr:zA1)(St:zAx->Prop):Prop :=
 ∀ (yv:Value) (h0:zAx) (J:List (List Value)->(zA1)->zAx->Prop) (E:zAx->Prop),St h0->J [] (λ_=>False) h0 ->
  (∀ (tr:List (List Value)) (x:List Value) (Z:zA1) (h:zAx),Nx tr x->J tr Z h->zDQ P yv x h λv h'=>h.size<=h'.size/\(∀ b,Sr b\/Z b->b<h.size->h'[b]? = h[b]?)/\((v = .bool true/\J (tr++[x]) Z h')\/(v = .bool false/\E h'))) ->
  (∀ tr Z Z' h h',J tr Z h->Keep (λb=>Sw b\/Z b) h h'->(∀ b,Z' b->Z b\/(h.size<=b/\b<h'.size))->J tr Z' h')->(∀ h h',E h->Keep Sw h h'->E h') ->
  zAcs P fv [yv] h0 λ_ h=>(∃ tr Z,Dn tr/\J tr Z h)\/E h
theorem zAdS {P:Program}{n0:Nat}{fv:Value}{H:zAx}{B:List Value->zAx->(Option Code->zAx->Prop)->Prop}{rest:Option Code->zAx->Prop}
  {Nx:List (List Value)->List Value->Prop} {Dn:List (List Value)->Prop} {Sw Sr:zA1} {St:zAx->Prop} (hit:zAiW P fv Nx Dn Sw Sr St) (hst:∀ o o',St ((H.push o).push o')) (hn:n0<=H.size)
  (Inv:List (List Value)->(zA1)->zAx->Prop) (Ex:Code->zAx->Prop) (h0:Inv [] (λ_=>False) H)
  (sI:∀ tr Z Z' h h',Inv tr Z h->H.size<=h.size->Keep (λb=>Sw b\/Z b\/b=H.size\/b=H.size+1) h h'->(∀ b,Z' b->Z b\/(h.size<=b/\b<h'.size))->Inv tr Z' h')
  (sE:∀ c h h',Ex c h->H.size<=h.size->Keep (λb=>Sw b\/b=H.size\/b=H.size+1) h h'->Ex c h')
  (hSw:∀ b,Sw b->b<H.size) (hSr:∀ b,Sr b->b<H.size)
  (hB:∀ (tr:List (List Value)) (x:List Value) (Z:zA1) (h:zAx) (r:Loop),H.size+2<=h.size->Nx tr x->(∀ b,Z b->H.size+2<=b)->Inv tr Z h->h[H.size+1]? = some (.loop r)->r.state = .ready ->
   ∀ K:Option Code->zAx->Prop,(∀ h',Keep (λb=>¬ (Sr b\/Z b\/b=H.size\/b=H.size+1)) (h.setIfInBounds (H.size+1) (.loop { r with state := .busy })) h'->Inv (tr++[x]) Z h'->K none h') ->
    (∀ c h',Keep (λb=>¬ (Sr b\/Z b\/b=H.size\/b=H.size+1)) (h.setIfInBounds (H.size+1) (.loop { r with state := .busy })) h'->Ex c h'->K (some c) h')->B x h K)
  (hrest:∀ tr Z h,H.size<=h.size->Dn tr->Inv tr Z h->rest none h) (hexit:∀ c h,H.size<=h.size->Ex c h->rest (some c) h):zTc P n0 fv H B rest:=by
 refine⟨hn,λrec hr hp hyield=>?_⟩
 have hL:((H.push (.deferred (some []))).push (.loop rec))[H.size+1]? = some (.loop rec):=by
  have:=zCj (H:=H.push (.deferred (some []))) (y := .loop rec)
  rwa [show(H.push (.deferred (some []))).size=H.size+1 by simp]at this
 have hSL:¬ Sw (H.size+1):=λh=>by have:=hSw _ h;omega
 have hSL2:¬ Sr (H.size+1):=λh=>by have:=hSr _ h;omega
 have main:=hit (.func (.yield (H.size+1)) #[] #[]) ((H.push (.deferred (some []))).push (.loop rec)) (λtr Z h=>Inv tr Z h/\h[H.size+1]? = some (.loop rec)/\∀ b,Z b->H.size+2<=b)
  (λh=>∃ c,Ex c h/\∃ r,h[H.size+1]? = some (.loop r)/\r.state = .done/\r.pending=some c) (hst _ _)
  ⟨sI _ _ _ _ _ h0 (zAh _) ((Keep.push (S:=λb=>Sw b\/False\/b=H.size\/b=H.size+1)).trans Keep.push) (λ_ h=>h.elim),hL,λ_ h=>h.elim⟩ ?_
  (λtr Z Z' h h' ⟨h1,h2,h3⟩ k hz=>⟨sI _ _ _ _ _ h1 (by have:=lt_of h2;omega) (k.mono λ_ _ h=>h.elim .inl λh => .inr (.inl h)) hz,k.at h2 (λh=>h.elim hSL λh=>by have:=h3 _ h;omega),λb hb=>(hz b hb).elim (h3 b) λh=>by have:=lt_of h2;omega⟩)
  (λh h' ⟨c,h1,r,h2,h3⟩ k=>⟨c,sE _ _ _ h1 (by have:=lt_of h2;omega) (k.mono λ_ _ h => .inl h),r,k.at h2 hSL,h3⟩)
 ·obtain⟨f,fi,ca,e1,e2,hc⟩:=main
  refine⟨f,fi,ca,e1,e2,λw hw=>(hc w hw).mono λe w'=>?_⟩
  rintro⟨v,he,hs,hJ⟩
  refine⟨v,he,hs,?_⟩
  rcases hJ with ⟨tr,Z,hD,hI,hl,hz⟩|⟨c,hE,r,hl,hd,hpend⟩
  ·refine⟨rec,hl,by rw[hr];decide,?_⟩
   rw[hp]
   have:=lt_of hl
   refine hrest tr Z _ ?_ hD (sI _ _ _ _ _ hI (by omega) (Keep.set (.inr (.inr (.inr rfl)))) λb hb => .inl hb)
   simp;omega
  ·refine⟨r,hl,by rw[hd];decide,?_⟩
   rw[hpend]
   have:=lt_of hl
   refine hexit _ _ ?_ (sE _ _ _ hE (by omega) (Keep.set (.inr (.inr rfl))))
   simp;omega
 ·rintro tr x Z h hx ⟨hI,hl,hz⟩
  have hlt:=lt_of hl
  have hZL:¬ Z (H.size+1):=λh=>by have:=hz _ h;omega
  refine .inr ⟨H.size+1,#[],#[],rfl,hyield _ _ _ hl (hB tr x Z h rec (by omega) hx hz hI hl hr _ ?_ ?_)⟩
  ·intro h' k hI'
   have hl':=k.at (zBm (y := .loop { rec with state := .busy }) hl) (λh=>h (.inr (.inr (.inr rfl))))
   have hsize:h.size<=h'.size:=by have:=k.1;simpa using this
   refine⟨_,hl',by simpa using hsize,λb hb hlt=>?_,.inl ⟨rfl,?_,?_,hz⟩⟩
   ·have hne:H.size+1≠b:=λe=>hb.elim (λh=>hSL2 (e ▸ h)) λh=>hZL (e ▸ h)
    rw[zAE,if_neg hne,k.2 b (by simpa using hlt) (λhw=>hw (hb.elim .inl λh => .inr (.inl h))),zAE,if_neg hne]
   ·have:=lt_of hl'
    exact sI _ _ _ _ _ hI' (by omega) (Keep.set (.inr (.inr (.inr rfl)))) λb hb => .inl hb
   ·rw[zBm hl']
    congr 2
    cases rec;simp only at hr hp;subst hr hp;rfl
  ·intro c h' k hE
   have hl':=k.at (zBm (y := .loop { rec with state := .busy }) hl) (λh=>h (.inr (.inr (.inr rfl))))
   have hsize:h.size<=h'.size:=by have:=k.1;simpa using this
   have:=lt_of hl'
   refine⟨_,hl',by simpa using hsize,λb hb hlt=>?_,.inr ⟨rfl,c,sE _ _ _ hE (by omega) (Keep.set (.inr (.inr rfl))),_,zBm hl',rfl,rfl⟩⟩
   have hne:H.size+1≠b:=λe=>hb.elim (λh=>hSL2 (e ▸ h)) λh=>hZL (e ▸ h)
   rw[zAE,if_neg hne,k.2 b (by simpa using hlt) (λhw=>hw (hb.elim .inl λh => .inr (.inl h))),zAE,if_neg hne]
end Go.X
namespace Go.Proofs.YticdfkoncnnmmaaGreatDoor
open Go.X Go.X.Diff
theorem zAbt.len {H:zAx}{r q:Nat}{es:List (Value×Value)}{vis:List Nat}(h:zAbt H r q es vis):vis.length<=es.length:=by
 obtain⟨arr,clock,seen,_,he,_,_,_,_,hv,hl,_⟩:=h
 have hn:es.length=arr.size:=by rw[<- he];simp
 rw[hn]
 exact zWG _ hv hl
theorem zAmn:prg.underlying zDi=some (.map zBJ zBJ):=by kernel_rfl
def zAha (ks:List (List UInt8))(tr:List (List Value))(x:List Value):Prop:=(∃ k∈ks,x=[str k]/\x∉tr)/\tr.length<ks.length
def zAhb (ks:List (List UInt8))(tr:List (List Value)):Prop:=tr.Nodup/\(∀ x∈tr,∃ k∈ks,x=[str k])/\∀ k∈ks,[str k]∈tr
theorem zAdT {q r:Nat}{l:List (List UInt8×List UInt8)}(hnd:(l.map (·.1)).Nodup) :
  zAiW prg (.func (.func zBS) #[] #[Ptr r 0]) (zAha (l.map (·.1))) (zAhb (l.map (·.1))) (λ_=>False) (λb=>b=q\/b=r) (λh=>At h r [.map (some q)]/\zAaC h q l):=by
 rintro yv h0 J E ⟨ar,hm⟩ hJ hbody sJ sE
 refine⟨zBS,#[],#[Ptr r 0],rfl,by kernel_rfl,?_⟩
 show zAA prg zBS [yv,Ptr r 0] h0 _
 apply zFB
 unfold zD6
 rw[ar.ld (i:=0) rfl,zAa]
 refine zAfH zAmn hm λh1 hI k1=>?_
 have hr:r≠h0.size:=by have:=ar.lt;omega
 have hq:q≠h0.size:=by obtain⟨_,_,hb,_⟩:=hm;have:=lt_of hb;omega
 have hg1:=k1.1
 have hit1:h0.size<h1.size:=by obtain⟨_,_,_,_,_,_,_,h5,_⟩:=hI;exact lt_of h5
 let key:Nat->List Value:=λi=>[str (l.getD i ([],[])).1]
 let I:zAx->Prop:=λh=>∃ vis,zAbt h h0.size q (l.map λe=>(str e.1,str e.2)) vis/\At h r [.map (some q)]/\J (vis.map key) (· = h0.size) h
 have hkey:∀ {i:Nat} {x:Value×Value},(l.map λe=>(str e.1,str e.2))[i]? = some x->key i=[x.1]/\∃ k∈l.map (·.1),key i=[str k]:=λ{i x} hx=>by
  rw[zAq]at hx
  obtain⟨e,he,rfl⟩:=zBF.1 hx
  have:l.getD i ([],[])=e:=by rw[List.getD,he];rfl
  refine⟨by show [str _]=_;rw[this],e.1,zAo.2 ⟨e,zAC he,rfl⟩,by show [str _]=_;rw[this]⟩
 have hinj:∀ {i j:Nat},i<l.length->j<l.length->key i=key j->i=j:=λ{i j} hi hj e=>by
  have e1:(l.getD i ([],[])).1=(l.getD j ([],[])).1:=by
   have e0:[str (l.getD i ([],[])).1]=[str (l.getD j ([],[])).1]:=e
   exact zSZ (by simpa using e0)
  have hp:=zBH.1 (zBu.1 (zB6.1 hnd))
  have gi:l.getD i ([],[])=l[i]:=by simp[List.getD,hi]
  have gj:l.getD j ([],[])=l[j]:=by simp[List.getD,hj]
  rw[gi,gj]at e1
  rcases Nat.lt_trichotomy i j with h|h|h
  ·exact absurd e1 (hp i j hi hj h)
  ·exact h
  ·exact absurd e1.symm (hp j i hj hi h)
 refine L0_i I (λh=>match h[h0.size]? with|some (.mapIter _ _ seen _)=>l.length-seen.size|_=>0) ⟨[],hI,ar.keep k1 id,sJ _ _ _ _ _ hJ (k1.mono λ_ _ h=>h.elim) λb hb => .inr (by subst hb;exact⟨zAh _,hit1⟩)⟩ ?_
 rintro h3 ⟨vis,hI3,ar3,hJ3⟩ k2 hk2
 have hlen3:=hI3.len
 rw[zAd]at hlen3
 have hvb:∀ i∈vis,i<l.length:=λi hi=>by
  obtain⟨arr,_,_,_,he,_,_,_,_,_,hl',_⟩:=hI3
  have:=hl' i hi
  have hn:=congrArg List.length he
  rw[zAd,zAd]at hn
  rw[<- hn];simpa using this
 have hvn:vis.Nodup:=by obtain⟨_,_,_,_,_,_,_,_,_,h,_⟩:=hI3;exact h
 refine zAiJ hI3 (λi x hx hnv h4 hI4 k4=>?_) λhall=>?_
 ·have hil:i<l.length:=by have:=(zAV.1 hx).1;simpa using this
  obtain⟨hk1,kk,hkm,hk2'⟩:=hkey hx
  rw[show zE0 0 (.tuple #[.bool true,x.1,x.2])=some (.bool true) from rfl,zAa,zAl,if_pos rfl]
  refine zAfI hI4 hx ?_
  rw[show zE0 0 (.tuple #[x.1,x.2])=some x.1 from rfl,zAa,<- hk1]
  have hJ4:J (vis.map key) (· = h0.size) h4:=sJ _ _ _ _ _ hJ3 (k4.mono λ_ _ h => .inr h) λb hb => .inl hb
  have ar4:=ar3.keep k4 hr
  have hnx:zAha (l.map (·.1)) (vis.map key) (key i):=⟨⟨kk,hkm,hk2',λhm=>by
   obtain⟨j,hj,e⟩:=zAo.1 hm
   exact hnv (hinj (hvb j hj) hil e ▸ hj)⟩,by
   have:=hI4.len
   rw[zAt,zBc,zAd]at this
   rw[zAd,zAd];omega⟩
  refine(hbody _ _ _ h4 hnx hJ4).mono ?_
  rintro v h6 ⟨hsz,hS,hv⟩
  have k46:Keep (λb=>¬ ((b=q\/b=r)\/b=h0.size)) h4 h6:=⟨hsz,λb hb hn=>hS b (Classical.not_not.1 hn) hb⟩
  rcases hv with ⟨rfl,hJ6⟩|⟨rfl,hE⟩
  ·rw[zA7,zAa,zAl,if_neg (by decide)]
   have hI6:=hI4.keep k46 (λh=>h (.inr rfl)) (λh=>h (.inl (.inl rfl)))
   refine hk2 _ ⟨vis++[i],hI6,ar4.keep k46 (λh=>h (.inl (.inr rfl))),by rw[zAF];exact hJ6⟩ ?_
   have size_of:∀ {h:zAx} {vis:List Nat},zAbt h h0.size q (l.map λe=>(str e.1,str e.2)) vis->∃ m s seen c,h[h0.size]? = some (.mapIter m s seen c)/\seen.size=vis.length:=λhI=>by
    obtain⟨_,c,seen,_,_,_,_,h5,_,_,_,_,hsv⟩:=hI
    refine⟨_,_,seen,_,h5,?_⟩
    have:=congrArg List.length hsv
    simpa using this
   obtain⟨m,s,seen,c,e1,e2⟩:=size_of hI3
   obtain⟨m',s',seen',c',e1',e2'⟩:=size_of hI6
   have hl6:=hI6.len
   rw[zAd]at hl6
   rw[e1,e1']
   show l.length-seen'.size<l.length-seen.size
   rw[e2,e2',zAt,zBc]
   rw[zAt,zBc]at hl6
   omega
  ·rw[zA7,zAa,zAl,if_pos (by rfl)]
   exact .inr hE
 ·rw[show zE0 0 (.tuple #[.bool false])=some (.bool false) from rfl,zAa,zAl,if_neg (by decide)]
  refine .inl ⟨_,_,⟨?_,λx hx=>?_,λk hk=>?_⟩,hJ3⟩
  ·rw[zB6,zBu]
   exact(zB6.1 hvn).imp_of_mem λ{a b} ha hb hne e=>hne (hinj (hvb a ha) (hvb b hb) e)
  ·obtain⟨i,hi,rfl⟩:=zAo.1 hx
   have hil:=hvb i hi
   obtain⟨_,kk,hkm,e⟩:=hkey (i:=i) (x:=(str l[i].1,str l[i].2)) (by rw[zAq,zAj hil];rfl)
   exact⟨kk,hkm,e⟩
  ·obtain⟨e,he,rfl⟩:=zAo.1 hk
   obtain⟨i,hi,rfl⟩:=zBK he
   refine zAo.2 ⟨i,hall i (by simpa using hi),?_⟩
   show [str (l.getD i ([],[])).1]=_
   have gi:l.getD i ([],[])=l[i]:=by simp[List.getD,hi]
   rw[gi]
open Go.Sort (swp PermIn SortedIn Below SWO)
theorem zWM {a b:List UInt8}:less a b=decide (zJH a b<0):=by
 unfold zJH
 cases h:less a b
 ·rw[if_neg (by decide)]
  split<;>simp
 ·simp
theorem zWN:SWO less:=by
 have:less=λa b=>decide (zJH a b<0):=by funext a b;exact zWM
 rw[this];exact zAdK zFb id
theorem zAkO {H:zAx}{a b:List UInt8}:zAA prg zKM [str a,str b] H λu H'=>u = .bool (less a b)/\Keep zAK H H':=by
 apply zOj
 unfold zNz
 refine zAI zZg ?_
 rintro _ _ ⟨rfl,rfl⟩
 refine zId (by decide) ?_
 refine zLY.2 ?_
 refine zDo rfl ?_
 rw[show zAB .no .lss (str a) (str b)=some (.bool (less a b)) from by rw[zGf];simp only[zTt,zLg],zAa]
 show Mpu (zBD (.bool false) (.bool true) (.bool (less a b))) _
 rw[zAv,if_neg (by decide),zAa]
 exact⟨rfl,Keep.refl⟩
theorem zAhc {H:zAx}{u:Nat}(hu:u<1000000):zAA prg zEV [.int .u64 (u:Nat)] H λv H'=>(∃ m:Nat,v = .int .i64 (m:Nat)/\m<=1000)/\H=H':=by
 by_cases h0:0<u
 ·refine zAA.mono (zAdI h0 hu) ?_
  intro v h hR
  obtain⟨m,h1,h2,h3⟩:=zAdM hu hR
  exact⟨⟨m,h1,h2⟩,h3⟩
 obtain rfl:u=0:=by omega
 apply zHr
 unfold zI2
 rw[zAl,if_neg (by decide)]
 refine zAI (R:=λv H'=>(∃ m:Nat,v = .int .i64 (m:Nat)/\m<=1000)/\H=H') ?_ λv h hR=>hR
 apply zE9
 unfold zGg
 have g1:zAB .no .geq (.int .u64 ((0:Nat):Int)) (.int .u64 4294967296)=some (.bool false):=rfl
 have g2:zAB .no .geq (.int .u64 ((0:Nat):Int)) (.int .u64 65536)=some (.bool false):=rfl
 have g3:zAB .no .geq (.int .u64 ((0:Nat):Int)) (.int .u64 256)=some (.bool false):=rfl
 simp only[zAcx,g1,g2,g3,zAa,zAl,zAb,if_false]
 have:=zYW (x:=0) (by omega)
 exact zQm (R:=λv _=>(∃ m:Nat,v = .int .i64 (m:Nat)/\m<=1000)/\True) (H:=H) (off:=0) (x:=0) (by omega) (by omega) ⟨⟨_,rfl,by omega⟩,trivial⟩
theorem zAdU {F:zA1}{H:zAx}{v:Value}{l:List (List UInt8)}(hv:BufE 1 F H v (zRt l))(hF:∀ b,F b->b<H.size)(hl:l.length<=900000) :
  zAA prg zFd [v] H λ_ H'=>(∃ l':List (List UInt8),l'.Perm l/\l'.Pairwise (λx y=>less y x=false)/\BufE 1 F H' v (zRt l'))/\Keep F H H':=by
 apply zIU
 unfold zGT
 have hlen:=hv.sl.len
 rw[zOL]at hlen
 let enc:List UInt8->List Value:=λa=>[str a]
 have he:l.map enc=zRt l:=by simp[zHL,enc]
 have ok:zIW zVJ enc (Ev1 enc) less (λ_=>True) F v:=⟨λhr _ hi=>zTH hr hi,λhr _ _ hi hj=>zX4 hr hi hj,λ{x y h K} hg hk=>by
  refine zAA.mono (zAkO (a:=x) (b:=y)) ?_
  rintro _ h' ⟨rfl,k⟩
  exact hk h' k⟩
 rw[hlen,zAa,zAdL (by omega),zAa]
 refine zAI (zAhc (by omega)) ?_
 rintro _ _ ⟨⟨m,rfl,hm⟩,rfl⟩
 refine zAI (zZk zZi ok zWN (l:=l) (m:=m) (by rw[he];exact hv) (λ_ _=>trivial) hF hl hm) ?_
 rintro _ H' ⟨⟨l',h1,h2,h3⟩,k⟩
 exact⟨⟨l',h1,h2,by rw[show zRt l'=l'.map enc by simp[zHL,enc]];exact h3⟩,k⟩
theorem BufE.closed {n n0:Nat}{F:zA1}{h h':zAx}{v:Value}{xs:List (List Value)}(b:BufE n F h v xs)(c:zOX n0 h h'):BufE n F h' v xs:=by
 obtain⟨h1,h2,h3|⟨b,o,k,cs,T,f,e,hf,hk,hb,hr⟩⟩:=b
 ·exact⟨h1,h2,.inl h3⟩
 ·exact⟨h1,h2,.inr ⟨b,o,k,cs,T,f,e,hf,hk,c.2.2 _ _ hb (λds e=>by cases e),hr⟩⟩
theorem zAdV {ks:List (List UInt8)}(hk:ks.Nodup){tr:List (List Value)}(h:zAhb ks tr):∃ l:List (List UInt8),tr=zRt l/\l.Perm ks:=by
 obtain⟨h1,h2,h3⟩:=h
 have:∃ l:List (List UInt8),tr=zRt l:=by
  clear h1 h3
  induction tr with
  | nil=>exact⟨[],rfl⟩
  | cons x tr ih =>
   obtain⟨l,rfl⟩:=ih λy hy=>h2 y (by simp[hy])
   obtain⟨k,_,rfl⟩:=h2 x (by simp)
   exact⟨k::l,by simp[zHL]⟩
 obtain⟨l,rfl⟩:=this
 refine⟨l,rfl,?_⟩
 have hn:l.Nodup:=by
  have e:zRt l=l.map λa=>[str a]:=by simp[zHL]
  rw[e,zB6,zBu]at h1
  exact zB6.2 (h1.imp λ{a b} h e=>h (by rw[e]))
 have hm:∀ a,a∈l↔a∈ks:=λa=>by
  constructor
  ·intro ha
   obtain⟨k,hk',e⟩:=h2 [str a] (by simpa [zHL] using ha)
   have:a=k:=zSZ (by simpa using e)
   rw[this];exact hk'
  ·intro ha
   have:=h3 a ha
   simpa [zHL] using this
 exact(List.perm_ext_iff_of_nodup hn hk).2 hm
theorem zUC {H:zAx}{q r:Nat}{l:List (List UInt8×List UInt8)}(hnd:(l.map (·.1)).Nodup)(hl:l.length<=1000000)(ar:At H r [.map (some q)])(hm:zAaC H q l) :
  zAA prg zEi [.slice none 0 0,.func (.func zBS) #[] #[Ptr r 0]] H λu H'=>(∃ ks:List (List UInt8),ks.Perm (l.map (·.1))/\BufE 1 (λb=>H.size<=b/\b<H'.size) H' u (zRt ks))/\Keep zAK H H':=by
 apply zHs
 unfold zFN
 have ec:Value.cells (.slice none 0 0)=[Value.slice none 0 0].toArray:=rfl
 rw[ec,zBb]
 generalize hH1:H.push (.cells [Value.slice none 0 0].toArray zVl (0,0))=H1
 have k1:Keep zAK H H1:=by rw[<- hH1];exact Keep.push
 have a1:At H1 H.size [.slice none 0 0]:=by rw[<- hH1];exact At.push
 have s1:H1.size=H.size+1:=by rw[<- hH1];simp
 have hq:q<H.size:=by obtain⟨_,_,hb,_⟩:=hm;exact lt_of hb
 let Inv:List (List Value)->(zA1)->zAx->Prop:=λtr Z h=>(∃ u F,At h H.size [u]/\BufE 1 F h u tr/\∀ b,F b->H1.size+2<=b/\b<h.size/\¬ Z b)/\(∀ b,Z b->H1.size<=b/\b<h.size)/\Keep zAK H h/\tr.length<=l.length
 have hz:zBI prg zBJ=some [str []].toArray:=zAfw
 have hr:r<H.size:=ar.lt
 refine zAdS (n0:=H.size) (zAdT (q:=q) (r:=r) hnd) (λo o'=>?_) (by omega) Inv (λ_ _=>False) ⟨⟨_,λ_=>False,a1,BufE.nil,λb hb=>hb.elim⟩,λb hb=>hb.elim,k1,zAz _⟩ ?_ (λ_ _ _ h=>h.elim) (λb hb=>hb.elim) (λb hb=>by rcases hb with rfl|rfl<;>omega) ?_ ?_ (λ_ _ _ h=>h.elim)
 ·have kk:Keep zAK H ((H1.push o).push o'):=(k1.trans Keep.push).trans Keep.push
  exact⟨ar.keep kk id,hm.keep kk id⟩
 ·rintro tr Z Z' h h' ⟨⟨u,F,au,hb,hF⟩,hZ,kh,hlen⟩ hsz k hz'
  have hsz':=k.1
  refine⟨⟨u,F,au.keep k (λhh=>?_),hb.keep k λb hb hh=>?_,λb hb=>⟨(hF b hb).1,by have:=(hF b hb).2.1;omega,λhh=>(hz' b hh).elim (hF b hb).2.2 λh=>by have:=(hF b hb).2.1;omega⟩⟩,λb hb=>(hz' b hb).elim (λh=>by have:=hZ b h;omega) λh=>by omega,kh.fresh k λb hb=>?_,hlen⟩
  ·rcases hh with hh|hh|hh|hh
   ·exact hh
   ·have:=hZ _ hh;omega
   ·omega
   ·omega
  ·have:=hF b hb
   rcases hh with hh|hh|hh|hh
   ·exact hh
   ·exact this.2.2 hh
   ·omega
   ·omega
  ·rcases hb with hb|hb|hb|hb
   ·exact hb.elim
   ·have:=hZ b hb;omega
   ·omega
   ·omega
 ·rintro tr x Z h3 rl hsz ⟨⟨k,hk,rfl,hn⟩,hlt⟩ hZ2 ⟨⟨u,F,au,hb,hF⟩,hZ,kh,hlen⟩ hl3 hst K hK _
  refine⟨rfl,rl,hl3,hst,?_⟩
  generalize hH7:h3.setIfInBounds (H1.size+1) (.loop { rl with state := .busy })=h7
  have k7:Keep (· = H1.size+1) h3 h7:=by rw[<- hH7];exact Keep.set rfl
  have au7:=au.keep k7 (by omega)
  have hb7:=hb.keep k7 λb hb e=>by have:=(hF b hb).1;omega
  have e7:h7.size=h3.size:=by rw[<- hH7];simp
  have hbs:zF6 prg zBJ 1 [(0,str k)]=some #[str k]:=zAlS
  rw[au7.ld (i:=0) rfl,zAa]
  show zD2 h7 zBJ 1 (zF6 prg zBJ 1 [(0,str k)]) _
  rw[hbs,zCo]
  generalize hH8:h7.push (.cells #[str k] zBJ (0,0))=h8
  have k8:Keep zAK h7 h8:=by rw[<- hH8];exact Keep.push
  have hx8:SlE 1 (· = h7.size) h8 (.slice (some ⟨h7.size,0,none⟩) 1 1) [[str k]]:=⟨⟨_,1,rfl,zAh _,.inr ⟨h7.size,0,rfl,rfl,by show Pt h8 h7.size 0 [str k];rw[<- hH8];exact Pt.of zCj⟩⟩,λx hx=>by simp at hx;subst hx;rfl,λx hx c hc=>by simp at hx;subst hx;simp at hc;subst hc;rfl⟩
  have g8:=k8.1
  rw[zAd]at hlt
  refine((hb7.keep k8 λ_ _=>id).mono (G:=λb=>F b\/h8.size<=b) λb hb => .inl hb).app hx8 (by omega) (by rw[zBc];omega) (.inr (zAh _)) λt h9 hb9 k9=>?_
  have g9:=k9.1
  have au9:=(au7.keep k8 id).keep k9 (λhh=>hh.elim (λhh=>by have:=(hF _ hh).1;omega) λhh=>by have:=au7.lt;omega)
  have ht1:t.oneCell'=true:=hb9.sl.oneC
  obtain⟨h10,w10,a10,k10⟩:=au9.st1 (i:=0) (v:=t) (by simp) ht1
  rw[w10,zAW]
  have hF9:∀ b,(F b\/h8.size<=b)->b≠H.size:=λb hb e=>by
   subst e
   rcases hb with hb|hb
   ·have:=(hF _ hb).1;omega
   ·have:=au7.lt;omega
  have g10:=k10.1
  refine hK _ ?_ ⟨⟨t,λb=>(F b\/h8.size<=b)/\b<h9.size,a10,(BufE.re hb9 λb hb hF=>⟨hF,hb⟩).keep k10 λb hb e=>hF9 b hb.1 e,λb hb=>⟨hb.1.elim (λh=>(hF b h).1) λh=>by omega,by have:=k10.1;omega,λhh=>?_⟩⟩,λb hb=>⟨(hZ b hb).1,by have:=(hZ b hb).2;omega⟩,?_,by rw[zAt,zBc];omega⟩
  ·let W:zA1:=λb=>¬ ((b=q\/b=r)\/Z b\/b=H1.size\/b=H1.size+1)
   have c8:Keep W h7 h8:=k8.mono λ_ _ h=>h.elim
   have c9:Keep W h8 h9:=k9.mono λb hlt hb hh=>by
    have hb1:H1.size+2<=b/\¬ Z b:=hb.elim (λh=>⟨(hF b h).1,(hF b h).2.2⟩) λh=>⟨by omega,λhz=>by have:=hZ b hz;omega⟩
    rcases hh with (hh|hh)|hh|hh|hh
    ·omega
    ·omega
    ·exact hb1.2 hh
    ·omega
    ·omega
   have c10:Keep W h9 h10:=k10.mono λb hlt hb hh=>by
    rcases hh with (hh|hh)|hh|hh|hh
    ·omega
    ·omega
    ·have:=hZ _ hh;omega
    ·omega
    ·omega
   rw[hH7]
   exact(c8.trans c9).trans c10
  ·rcases hb.1 with h|h
   ·exact(hF b h).2.2 hh
   ·have:=hZ b hh;omega
  ·exact((((kh.fresh k7 λb hb=>by omega).trans k8).fresh k9 λb hb=>hb.elim (λh=>by have:=(hF b h).1;omega) λh=>by omega)).fresh k10 λb hb=>by omega
 ·rintro tr Z h6 hsz hD ⟨⟨u,F,au,hb,hF⟩,hZ,kh,hlen⟩
  refine .inl ⟨rfl,?_⟩
  rw[au.ld (i:=0) rfl,zAa]
  refine zWv λh11 hc=>?_
  obtain⟨ks,rfl,hp⟩:=zAdV hnd hD
  refine⟨⟨ks,hp,?_⟩,zH5 kh hc⟩
  have hz1:=hc.1
  exact(BufE.closed hb hc).mono λb hb=>by have:=hF b hb;omega
theorem zYb {H:zAx}{q:Nat}{l:List (List UInt8×List UInt8)}{k:zAm}(hnd:(l.map (·.1)).Nodup)(hl:l.length<=900000)(hm:zAaC H q l)
  (hk:∀ (u:Value) (ks:List (List UInt8)) (H':zAx),ks.Perm (l.map (·.1))->BufE 1 (λb=>H.size<=b/\b<H'.size) H' u (zRt ks)->Keep zAK H H'->k u H') :
  zAX prg zDx [.map (some q)] H λt13 h1=>zAX prg zHp [t13] h1 λt14 h2=>k t14 h2:=by
 refine zAI (R:=λu H'=>u = .func (.func zBS) #[] #[Ptr H.size 0]/\At H' H.size [.map (some q)]/\Keep zAK H H') ?_ ?_
 ·apply zFS
  unfold zEl
  have ec:Value.cells (.map (some q))=[Value.map (some q)].toArray:=rfl
  rw[ec,zBb]
  exact⟨rfl,At.push,Keep.push⟩
 rintro _ h1 ⟨rfl,a1,k1⟩
 have g1:=k1.1
 refine zAI (R:=λu H'=>(∃ ks:List (List UInt8),ks.Perm (l.map (·.1))/\BufE 1 (λb=>h1.size<=b/\b<H'.size) H' u (zRt ks))/\Keep zAK h1 H') ?_ ?_
 ·apply zLW
  unfold zKc
  refine zAI (R:=λu H'=>(∃ ks:List (List UInt8),ks.Perm (l.map (·.1))/\BufE 1 (λb=>h1.size<=b/\b<H'.size) H' u (zRt ks))/\Keep zAK h1 H') ?_ ?_
  ·apply zLy
   unfold zJu
   exact zAI (zUC hnd (by omega) a1 (hm.keep k1 id)) λ_ _ h=>h
  rintro u h2 ⟨⟨ks,hp,hb⟩,k2⟩
  have hln:=hp.length_eq
  rw[zAd]at hln
  refine zAI (zAdU hb (λb hb=>hb.2) (by omega)) ?_
  rintro _ h3 ⟨⟨l',p1,_,hb3⟩,k3⟩
  have g3:=k3.1
  exact⟨⟨l',p1.trans hp,hb3.mono λb hb=>⟨hb.1,by omega⟩⟩,k2.fresh k3 λb hb=>hb.1⟩
 rintro u h2 ⟨⟨ks,hp,hb⟩,k2⟩
 exact hk u ks h2 hp (hb.mono λb hb=>⟨by omega,hb.2⟩) (k1.trans k2)
open Go.MapKept
theorem zAhd {H:zAx}{a p:List UInt8}:zAA prg zFG [str a,str p] H λu H'=>u = .bool (decide (p.length<=a.length)&&decide (a.take p.length=p))/\H=H':=by
 apply zIj
 unfold zIv
 refine zAI zUq ?_
 rintro _ _ ⟨rfl,rfl⟩
 exact⟨rfl,rfl⟩
theorem zAkP {H:zAx}{a b:List UInt8}(ha:a.length<=1048576)(hb:b.length<=1048576):zAA prg zPE [str a,str b] H λu H'=>u = .bool (zU6 a b)/\H=H':=by
 apply zRd
 unfold zRV
 have e:=λq=>zDV (q:=q) (a:=a) (b:=b)
 have s:(Value.string ⟨#[47]⟩)=str [47]:=rfl
 rw[e,zAa,s]
 unfold zU6 zOq
 cases h:decide (a=b)
 rotate_left
 ·simp only[zBT,zAQ,zAc,if_false,zAv,if_true,zAa,Bool.true_or]
  exact⟨by trivial,by trivial⟩
 have h':decide (b=a)=false:=by simpa [eq_comm] using h
 rw[h']
 refine zDo rfl ?_
 rw[zUp (by simp;omega),zAa]
 refine zAI zAhd ?_
 rintro _ _ ⟨rfl,rfl⟩
 rw[zAv,if_neg (by decide),zAa]
 generalize (decide ((b++[47]).length<=a.length)&&decide (a.take (b++[47]).length=b++[47]))=x
 cases x
 rotate_left
 ·refine zId (by decide) ?_
  show Mpu (zBD (.bool true) (.bool true) undef) _
  rw[zAv,if_pos rfl,zAa]
  exact⟨rfl,rfl⟩
 refine zDo rfl ?_
 rw[zUp (by simp;omega),zAa]
 refine zAI zAhd ?_
 rintro _ _ ⟨rfl,rfl⟩
 rw[zAv,if_neg (by decide),zAa]
 exact⟨by simp,rfl⟩
def zS0 (of:zTr)(m:Man)(f:zHt)(k:List UInt8):Bool:=!decide ((zAb1 of k).getD []=m.name)&&zU6 f.name k
theorem zAbB {of:zTr}{m:Man}{ks:List (List UInt8)}(hnd:(of.map (·.1)).Nodup)(hp:ks.Perm (of.map (·.1))):zPa of m=m.files.any λf=>ks.any (zS0 of m f):=by
 unfold zPa
 congr 1
 funext f
 have e1:ks.any (zS0 of m f)=(of.map (·.1)).any (zS0 of m f):=by
  rw[zAR,zBz,zBz]
  exact⟨λ⟨x,h,g⟩=>⟨x,hp.mem_iff.1 h,g⟩,λ⟨x,h,g⟩=>⟨x,hp.mem_iff.2 h,g⟩⟩
 rw[e1,List.any_map,zAR,zBz,zBz]
 have e:∀ t∈of,(zS0 of m f ∘ λx=>x.1) t=(!decide (t.2=m.name)&&zU6 f.name t.1):=λt ht=>by
  show zS0 of m f t.1=_
  unfold zS0
  rw[zAg9 hnd (v:=t.2) ht];rfl
 exact⟨λ⟨x,h,g⟩=>⟨x,h,by rw[e x h];exact g⟩,λ⟨x,h,g⟩=>⟨x,h,by rw[<- e x h];exact g⟩⟩
theorem zTI {α:Type}{l:List α}{i:Nat}{x:α}{p:α->Bool}(h:l[i]? = some x):(l.take (i+1)).any p=((l.take i).any p || p x):=by
 rw[zAG,h,List.any_append];simp
structure zAfS (P:zA1)(of:zTr)(m:Man)(vd vc vf:Value)(r1 o qo qp r2:Nat)(h:zAx):Prop where
 a1:At h r1 [Ptr o 0]
 ao:At h o [.map (some qo),.map (some qp)]
 mo:zAaC h qo of
 a2:At h r2 (zGN m vd vc vf)
 mv:zLd P h m vd vc vf
 lt:∀ b,P b->b<h.size
def zAlz (P:zA1)(r1 o qo r2 b:Nat):Prop:=b=r1\/b=o\/b=qo\/b=r2\/P b
theorem zAfS.keep {P S:zA1}{of:zTr}{m:Man}{vd vc vf:Value}{r1 o qo qp r2:Nat}{h h':zAx}(p:zAfS P of m vd vc vf r1 o qo qp r2 h)(k:Keep S h h')(hs:∀ b,zAlz P r1 o qo r2 b->¬ S b):zAfS P of m vd vc vf r1 o qo qp r2 h' :=
 ⟨p.a1.keep k (hs _ (.inl rfl)),p.ao.keep k (hs _ (.inr (.inl rfl))),p.mo.keep k (hs _ (.inr (.inr (.inl rfl)))),p.a2.keep k (hs _ (.inr (.inr (.inr (.inl rfl))))),p.mv.keep k λb hb=>hs _ (.inr (.inr (.inr (.inr hb)))),λb hb=>zAM (p.lt b hb) k.1⟩
theorem zAfS.sr {P:zA1}{of:zTr}{m:Man}{vd vc vf:Value}{r1 o qo qp r2:Nat}{h:zAx}(p:zAfS P of m vd vc vf r1 o qo qp r2 h):∀ b,zAlz P r1 o qo r2 b->b<h.size:=λb hb=>by
 rcases hb with rfl|rfl|rfl|rfl|hb
 ·exact p.a1.lt
 ·exact p.ao.lt
 ·obtain⟨_,_,h,_⟩:=p.mo;exact lt_of h
 ·exact p.a2.lt
 ·exact p.lt b hb
theorem zAiX:zLM prg zMj=some ([(0,1),(1,1),(2,1)],[str [],str [],str []].toArray):=by kernel_rfl
theorem zAbC {P:zA1}{of:zTr}{m:Man}{vd vc vf:Value}{r1 o qo qp r2:Nat}(hnd:(of.map (·.1)).Nodup)(hol:of.length<=900000)(hl:∀ t∈of,t.1.length<=64)(hml:∀ f∈m.files,f.name.length<=64)(hfl:m.files.length<=64) :
  zAiW prg (.func (.func zDK) #[] #[Ptr r1 0,Ptr r2 0]) (λ_ x=>zPa of m=true/\∃ c,x=[c]) (λtr=>tr=[]->zPa of m=false) (λ_=>False) (zAlz P r1 o qo r2) (zAfS P of m vd vc vf r1 o qo qp r2):=by
 rintro yv h0 J E hst hJ hbody sJ sE
 refine⟨zDK,#[],#[Ptr r1 0,Ptr r2 0],rfl,by kernel_rfl,?_⟩
 show zAA prg zDK [yv,Ptr r1 0,Ptr r2 0] h0 _
 apply zK2
 unfold zIS
 have nck1:∀ b,nck (Ptr b 0)=some (Ptr b 0):=λ_=>rfl
 simp only[zBf,zAi,zAu,zAa]
 rw[hst.a1.ld (i:=0) rfl,zAa,nck1,zAa]
 simp only[zBf,zAi,zAu,zAa]
 rw[hst.ao.ld (i:=0) rfl,zAa]
 refine zYb hnd hol hst.mo λu ks h2 hp hb k2=>?_
 have g2:=k2.1
 have hst2:=hst.keep k2 λ_ _=>id
 have hsr:=hst.sr
 have w:=hst.mv.wf
 have hcl:=zAbB (m:=m) hnd hp
 have hkl:ks.length<=900000:=by rw[hp.length_eq,zAd];exact hol
 have hks:∀ k∈ks,k.length<=64:=λk hk=>by
  obtain⟨t,ht,rfl⟩:=zAo.1 (hp.mem_iff.1 hk)
  exact hl t ht
 have hfu:=hb.sl
 generalize hF:(λb=>h0.size<=b/\b<h2.size)=F at hb hfu
 have hFa:∀ b,F b↔h0.size<=b/\b<h2.size:=λb=>by rw[<- hF]
 have hulen:=hfu.len
 rw[zOL]at hulen
 have hvf:=hst2.mv.f.len
 rw[zAd]at hvf
 rw[(zHv hst2.a2 w).2.2,zAa,hvf,zAa]
 let Io:Nat->zAx->Prop:=λi h=>zAfS P of m vd vc vf r1 o qo qp r2 h/\SlE 1 F h u (zRt ks)/\h2.size<=h.size/\∃ tr,J tr F h/\(tr=[]->((m.files.take i).any λf=>ks.any (zS0 of m f))=false)
 refine zKj (λv h=>∃ i:Nat,i<=m.files.length/\v = .int .i64 (i:Nat)/\Io i h) (λv _=>match v with | .int _ t=>m.files.length-t.toNat|_=>0) ⟨0,zAz _,rfl,hst2,hfu,zAh _,[],sJ _ _ _ _ _ hJ (k2.mono λ_ _ h=>h.elim) (λb hb => .inr ((hFa b).1 hb)),λ_=>rfl⟩ ?_
 rintro _ h4 ⟨i,hi,rfl,hs4,hu4,hz4,tr,hJ4,htr⟩ k3 hk3
 rw[zNZ,zAa,zAl]
 by_cases hlt:i<m.files.length
 rotate_left
 ·rw[if_neg (by simpa using hlt)]
  obtain rfl:i=m.files.length:=by omega
  rw[zAr (zAh _)]at htr
  exact .inl ⟨tr,F,λe=>by rw[hcl];exact htr e,hJ4⟩
 rw[if_pos (by simpa using hlt)]
 have hg:m.files[i]? = some m.files[i]:=zAj hlt
 have hfm:=zAH hlt
 generalize m.files[i]=f at *
 have hwf:=w.files f hfm
 have hfn:=hml f hfm
 refine zOt (λ_ h=>Io (i+1) h) (λk5 hk5=>?_) ?_
 rotate_left
 ·rintro _ h6 hI6
  rw[zBV (by omega),zAa]
  exact hk3 _ _ ⟨i+1,by omega,rfl,hI6⟩ (by show m.files.length-(i+1)<m.files.length-i;omega)
 obtain⟨b,p,hix,hpt,_⟩:=hs4.mv.f.at (i:=i) (x:=zEj f) (by rw[zAq,hg];rfl)
 rw[hix .i64,zAa,hpt.agg (zDR hwf),zAa]
 simp only[zZb,zBb]
 generalize hH7:h4.push (.cells (zEj ⟨[],List.replicate 32 0,0⟩).toArray zBn (0,0))=h7
 have k7:Keep zAK h4 h7:=by rw[<- hH7];exact Keep.push
 have a7:At h7 h4.size (zEj ⟨[],List.replicate 32 0,0⟩):=by rw[<- hH7];exact At.push
 obtain⟨h8,st8,a8,k8⟩:=a7.st (n:=34) (ds:=zEj f) (zDR zAfJ) (zDR hwf) zM5
 have k48:Keep zAK h4 h8:=k7.fresh k8 λb hb=>by omega
 have g7:=a7.lt
 have g8:=k48.1
 have g78:=k8.1
 rw[st8,zAW,hulen,zAa]
 let Z:zA1:=λb=>F b\/b=h4.size
 have hZs:∀ b,Z b->h0.size<=b/\b<h8.size:=λb hb=>by
  rcases hb with hb|rfl
  ·have:=(hFa b).1 hb;omega
  ·omega
 let Ii:Nat->zAx->Prop:=λj h=>zAfS P of m vd vc vf r1 o qo qp r2 h/\SlE 1 F h u (zRt ks)/\At h h4.size (zEj f)/\h8.size<=h.size/\∃ tr,J tr Z h/\(tr=[]->((m.files.take i).any λf=>ks.any (zS0 of m f))=false/\((ks.take j).any (zS0 of m f))=false)
 refine zKj (λv h=>∃ j:Nat,j<=ks.length/\v = .int .i64 (j:Nat)/\Ii j h) (λv _=>match v with | .int _ t=>ks.length-t.toNat|_=>0) ⟨0,zAz _,rfl,hs4.keep k48 λ_ _=>id,hu4.keep k48 λ_ _=>id,a8,zAh _,tr,sJ _ _ _ _ _ hJ4 (k48.mono λ_ _ h=>h.elim) (λb hb=>hb.elim .inl λe => .inr (by omega)),λe=>⟨htr e,rfl⟩⟩ ?_
 rintro _ h10 ⟨j,hj,rfl,hs10,hu10,a10,hz10,tr2,hJ10,htr2⟩ k9 hk9
 rw[zNZ,zAa,zAl]
 by_cases hltj:j<ks.length
 rotate_left
 ·rw[if_neg (by simpa using hltj)]
  obtain rfl:j=ks.length:=by omega
  rw[zAr (zAh _)]at htr2
  exact hk5 _ _ ⟨hs10,hu10,by omega,tr2,sJ _ _ _ _ _ hJ10 (Keep.refl.mono (S:=λ_=>False) λ_ _ h=>h.elim) (λb hb => .inl (.inl hb)),λe=>by
   rw[zTI hg,(htr2 e).1,(htr2 e).2];rfl⟩
 rw[if_pos (by simpa using hltj)]
 have hgj:ks[j]? = some ks[j]:=zAj hltj
 have hkm:=zAH hltj
 generalize ks[j]=t at *
 have htl:=hks t hkm
 refine zOt (λ_ h=>Ii (j+1) h) (λk11 hk11=>?_) ?_
 rotate_left
 ·rintro _ h12 hI12
  rw[zBV (by omega),zAa]
  exact hk9 _ _ ⟨j+1,by omega,rfl,hI12⟩ (by show ks.length-(j+1)<ks.length-j;omega)
 obtain⟨bt,pt,hixt,hptt,_⟩:=hu10.at (i:=j) (x:=[str t]) (by simpa [zHL] using hgj)
 rw[hixt .i64,zAa,hptt.cell0 rfl,zAa,hs10.a1.ld (i:=0) rfl,zAa,nck1,zAa]
 simp only[zBf,zAi,zAu,zAa]
 have dnm:ld1 h10 (Ptr r2 0)=some (str m.name):=zDz hs10.a2
 have dfn:ld1 h10 (Ptr h4.size 0)=some (str f.name):=a10.ld rfl
 rw[hs10.ao.ld (i:=0) rfl,zAa,dnm,zAa]
 refine zYa hs10.mo hnd ?_
 show Mre [(ld1 h10 (Ptr r2 0),str m.name)] _
 rw[dnm,zBp,zA8]
 show Mpu (zAB .no .eql (str ((zAb1 of t).getD [])) (str m.name)) _
 rw[zDV,zAa]
 have hno:zS0 of m f t=false->Ii (j+1) h10:=λe=>⟨hs10,hu10,a10,hz10,tr2,hJ10,λe1=>⟨(htr2 e1).1,by rw[zTI hgj,(htr2 e1).2,e];rfl⟩⟩
 cases hm:decide ((zAb1 of t).getD []=m.name)
 rotate_left
 ·refine zId (by decide) ?_
  show Mpu (zBD (.bool true) (.bool true) undef) _
  rw[zAv,if_pos rfl,zAa,zAl,if_pos rfl]
  exact hk11 _ _ (hno (by unfold zS0;rw[hm];rfl))
 refine zDo rfl ?_
 rw[dfn,zAa]
 refine zAI (zAkP (by omega) (by omega)) ?_
 rintro _ _ ⟨rfl,rfl⟩
 rw[zA7,zAa]
 show Mpu (zBD (.bool false) (.bool true) (.bool (!zU6 f.name t))) _
 rw[zAv,if_neg (by decide),zAa,zAl]
 cases hmt:zU6 f.name t
 ·rw[if_pos (by rfl)]
  exact hk11 _ _ (hno (by unfold zS0;rw[hmt,zBG]))
 rw[if_neg (by decide)]
 simp only[dfn,dnm,zAa]
 rw[hs10.a1.ld (i:=0) rfl,zAa,nck1,zAa]
 simp only[zBf,zAi,zAu,zAa]
 rw[hs10.ao.ld (i:=0) rfl,zAa]
 refine zYa hs10.mo hnd ?_
 show Mre [(ld1 h10 (Ptr r2 0),str m.name),(ld1 h10 (Ptr h4.size 0),str f.name)] _
 rw[dnm,dfn,zBp,zBp,zA8]
 show Mpu (zCM prg zMj [(0,str f.name),(1,str m.name),(2,str ((zAb1 of t).getD []))]) _
 have hbd:zCM prg zMj [(0,str f.name),(1,str m.name),(2,str ((zAb1 of t).getD []))]=some (.agg #[str f.name,str m.name,str ((zAb1 of t).getD [])]):=by rw[zHZ zAiX];rfl
 rw[hbd,zAa]
 have hcT:zPa of m=true:=by
  rw[hcl]
  exact zBz.2 ⟨f,hfm,zBz.2 ⟨t,hkm,by unfold zS0;rw[hm,hmt];rfl⟩⟩
 refine(hbody _ _ _ h10 ⟨hcT,_,rfl⟩ hJ10).mono ?_
 rintro v h18 ⟨hsz,hS,hv⟩
 have k18:Keep (λb=>¬ (zAlz P r1 o qo r2 b\/Z b)) h10 h18:=⟨hsz,λb hb hn=>hS b (Classical.not_not.1 hn) hb⟩
 rcases hv with ⟨rfl,hJ18⟩|⟨rfl,hE⟩
 ·rw[zA7,zAa,zAl,if_neg (by decide)]
  refine hk11 _ _ ⟨hs10.keep k18 λb hb h=>h (.inl hb),hu10.keep k18 λb hb h=>h (.inr (.inl hb)),a10.keep k18 λh=>h (.inr (.inr rfl)),by omega,_,hJ18,λe=>?_⟩
  simp at e
 ·rw[zA7,zAa,zAl,if_pos (by rfl)]
  exact .inr hE
theorem zAdW {l:List (List UInt8)}(h:zR2 l=true):l.Pairwise λa b=>less a b=true:=by
 obtain⟨_,tr,_⟩:=zWN
 rw[zBH]
 intro i j hi hj hij
 induction j with
 | zero=>omega
 | succ j ih =>
  have hs:less (l[j]'(by omega)) l[j+1]=true:=by
   have h1:=zAw.1 h (j+1) (by simpa using hj)
   unfold zO9 at h1
   have e1:l.getD j []=l[j]'(by omega):=by simp[List.getD,show j<l.length by omega]
   have e2:l.getD (j+1) []=l[j+1]:=by simp[List.getD,hj]
   rw[decide_eq_false (by omega),zCs,Nat.add_sub_cancel,e1,e2]at h1
   exact h1
  by_cases e:i=j
  ·subst e;exact hs
  ·exact tr _ _ _ (ih (by omega) (by omega)) hs
theorem zAiY {l:List (List UInt8)}(h:zR2 l=true):l.Nodup:=by
 obtain⟨ir,_,_⟩:=zWN
 exact zB6.2 ((zAdW h).imp λ{a b} h e=>by subst e;rw[ir]at h;cases h)
theorem zM8 {m:Man}(h:zEC m=true):m.files.length<=64/\(m.files.map (·.name)).Nodup/\∀ f∈m.files,f.name.length<=64:=by
 unfold zEC zP4 at h
 simp only[zAk,decide_eq_true_eq]at h
 obtain⟨_,⟨h1,h2⟩,h3⟩:=h
 refine⟨h1,zAiY h2,λf hf=>?_⟩
 obtain⟨i,hi,rfl⟩:=zBK hf
 have:=zAw.1 h3 i (zBC.2 hi)
 unfold zKh at this
 rw[zUA (zAj hi)]at this
 simp only[zAk]at this
 exact zAg3 this.1.1.1.1
structure zYc (ps:List (List UInt8))(of:zTr):Prop extends OwnI ps of where
 len:∀ t∈of,t.1.length<=64
theorem zYc.nil:zYc [] []:=⟨⟨List.nodup_nil,λt h=>by cases h⟩,λt h=>by cases h⟩
theorem zYc.next {ps:List (List UInt8)}{of:zTr}{m:Man}(hI:zYc ps of)(h:zHG ps of m=0):zYc (ps++[m.name]) (zAev of m):=by
 obtain⟨h1,h2,h3⟩:=zAaD h
 obtain⟨f1,f2,f3⟩:=zM8 h1
 have hn:=zAdR hI.toOwnI h2 h3
 refine⟨⟨?_,λt ht=>?_⟩,λt ht=>?_⟩
 ·unfold zAev
  rw[zAF,List.map_map,zCH]
  refine⟨hI.nd,f2,λa ha b hb e=>?_⟩
  obtain⟨f,hf,rfl⟩:=zAo.1 hb
  exact hn f hf (by rw[show f.name=a from e.symm];exact ha)
 ·rcases zAp.1 ht with ht|ht
  ·exact List.mem_append_left _ (hI.mem t ht)
  ·obtain⟨f,hf,rfl⟩:=zAo.1 ht
   simp
 ·rcases zAp.1 ht with ht|ht
  ·exact hI.len t ht
  ·obtain⟨f,hf,rfl⟩:=zAo.1 ht
   exact f3 f hf
theorem zAkQ:zAlv prg zFA .string (.bool false):=⟨zBJ,zXt,by kernel_rfl,by kernel_rfl,λw=>by rfl⟩
def zAew (h:zAx)(q:Nat)(l:List (List UInt8)):Prop:=zOS h q (l.map λe=>(str e,.bool true))
theorem zAew.keep {H H':zAx}{q:Nat}{l:List (List UInt8)}{S:zA1}(h:zAew H q l)(k:Keep S H H')(hs:¬ S q):zAew H' q l:=zOS.keep h k hs
theorem zAaE {l:List (List UInt8)}:∀ x∈l.map (λe=>(str e,Value.bool true)),IsKey .string x.1:=λx hx=>by
 obtain⟨e,_,rfl⟩:=zAo.1 hx
 exact trivial
theorem zAiZ {H:zAx}{q:Nat}{l:List (List UInt8)}{n:List UInt8}{k:zAm}(h:zAew H q l)(hk:k (.bool (decide (n∈l))) H):zQx prg (Instr.lookup zFA (.map (some q)) (str n) false) H k:=by
 refine zAav zAkQ h zAaE trivial (λv hv=>?_) λhno=>?_
 ·obtain⟨e,he,hev⟩:=zAo.1 hv
  injection hev with h1 h2
  obtain rfl:=zSZ h1
  rw[decide_eq_true he]at hk
  rw[<- h2];exact hk
 ·rw[decide_eq_false λhm=>hno _ (zAo.2 ⟨n,hm,rfl⟩) rfl]at hk
  exact hk
theorem zAi0 {H:zAx}{q:Nat}{l:List (List UInt8)}{n:List UInt8}{k:zAm}(h:zAew H q l)(hno:n∉l)(hk:∀ H',zAew H' q (l++[n])->Keep (· = q) H H'->k undef H'):Msu prg (Instr.mapUpdate zFA (.map (some q)) (str n) (.bool true)) H k:=by
 refine zAaw zAkQ h zAaE trivial (λj w H' hj hm kk=>?_) λH' _ hm kk=>?_
 ·obtain⟨e,he,hev⟩:=zAo.1 (zAC hj)
  injection hev with h1 h2
  exact absurd (zSZ h1 ▸ he) hno
 ·refine hk H' ?_ kk
  show zOS H' q _
  rw[zAF];exact hm
structure zP6 (ps:List (List UInt8))(of:zTr)(o qo qp:Nat)(h:zAx):Prop where
 ao:At h o [.map (some qo),.map (some qp)]
 mo:zAaC h qo of
 mp:zAew h qp ps
 ne:qo≠qp
theorem zAaC.lt {h:zAx}{q:Nat}{l:zTr}(m:zAaC h q l):q<h.size:=by obtain⟨_,_,h,_⟩:=m;exact lt_of h
theorem zAew.lt {h:zAx}{q:Nat}{l:List (List UInt8)}(m:zAew h q l):q<h.size:=by obtain⟨_,_,h,_⟩:=m;exact lt_of h
theorem zP6.keep {ps:List (List UInt8)}{of:zTr}{o qo qp:Nat}{h h':zAx}{S:zA1}(p:zP6 ps of o qo qp h)(k:Keep S h h')(hs:∀ b,b=o\/b=qo\/b=qp->¬ S b):zP6 ps of o qo qp h' :=
 ⟨p.ao.keep k (hs _ (.inl rfl)),p.mo.keep k (hs _ (.inr (.inl rfl))),p.mp.keep k (hs _ (.inr (.inr rfl))),p.ne⟩
theorem zP6.nes {ps:List (List UInt8)}{of:zTr}{o qo qp:Nat}{h:zAx}(p:zP6 ps of o qo qp h):o≠qo/\o≠qp:=by
 obtain⟨T,a⟩:=p.ao
 obtain⟨_,_,h1,_⟩:=p.mo
 obtain⟨_,_,h2,_⟩:=p.mp
 refine⟨λe=>?_,λe=>?_⟩
 ·subst e;rw[a]at h1;cases h1
 ·subst e;rw[a]at h2;cases h2
theorem zAmo {ps:List (List UInt8)}{of:zTr}{o qo qp:Nat}{H:zAx}{n:List UInt8}(p:zP6 ps of o qo qp H):zAA prg zJT [Ptr o 0,str n] H λu H'=>u = .bool (decide (n∈ps))/\H=H':=by
 apply zNR
 unfold zM0
 have nck1:∀ b,nck (Ptr b 0)=some (Ptr b 0):=λ_=>rfl
 rw[nck1,zAa,zBf,zAa,zAi,p.ao.ld (i:=1) rfl,zAa]
 exact zAiZ p.mp ⟨rfl,rfl⟩
theorem zAfT:zBI prg zHV=some [Value.int .i64 0].toArray:=by kernel_rfl
theorem zAfU {P:zA1}{ps:List (List UInt8)}{of:zTr}{o qo qp:Nat}{H:zAx}{m:Man}{vd vc vf:Value}(p:zP6 ps of o qo qp H)(hI:zYc ps of)(hol:of.length<=900000)(hv:zLd P H m vd vc vf)(hP:∀ b,P b->b<H.size/\b≠qo/\b≠qp)
  (hd:m.deps.length<=1099511627776) (hc:m.conf.length<=1099511627776) (hO:zQW H) :
  zAA prg zJQ [Ptr o 0,.agg (zGN m vd vc vf).toArray] H λu H'=>u = .int .i64 (zHG ps of m)/\(zHG ps of m=0->zP6 (ps++[m.name]) (zAev of m) o qo qp H')/\Keep (λb=>b=qo\/b=qp) H H':=by
 apply zNQ
 unfold zMX
 simp only[zB8,zBb,zAfT]
 generalize hH1:H.push (.cells (zGN m vd vc vf).toArray zAe (0,0))=H1
 have k1:Keep zAK H H1:=by rw[<- hH1];exact Keep.push
 have a1:At H1 H.size (zGN m vd vc vf):=by rw[<- hH1];exact At.push
 have s1:H1.size=H.size+1:=by rw[<- hH1];simp
 generalize hH2:H1.push (.cells [Value.int .i64 0].toArray zHV (0,0))=H2
 have k2:Keep zAK H1 H2:=by rw[<- hH2];exact Keep.push
 have a2:At H2 H1.size [.int .i64 0]:=by rw[<- hH2];exact At.push
 have s2:H2.size=H1.size+1:=by rw[<- hH2];simp
 have k02:=k1.trans k2
 have a1':=a1.keep k2 id
 have w:=hv.wf
 have hp0:=p.nes
 have l0:=p.ao.lt
 have lo:=p.mo.lt
 have lp:=p.mp.lt
 have fin:∀ (n:Int) (h:zAx),At h H1.size [.int .i64 0]\/At h H1.size [.int .i64 41]->Keep (λb=>b=qo\/b=qp) H h->n=zHG ps of m->(zHG ps of m=0->zP6 (ps++[m.name]) (zAev of m) o qo qp h) ->
   Mwr (st1 h (Ptr H1.size 0) (.int .i64 n)) λh8=>Mcl H.size h8 λh9=>Mpu (ld1 h9 (Ptr H1.size 0)) λr10=>r10 = .int .i64 (zHG ps of m)/\(zHG ps of m=0->zP6 (ps++[m.name]) (zAev of m) o qo qp h9)/\Keep (λb=>b=qo\/b=qp) H h9:=λn h a k e hw=>by
  obtain⟨h4,st4,a4,k4⟩:∃ h4,st1 h (Ptr H1.size 0) (.int .i64 n)=some h4/\At h4 H1.size [.int .i64 n]/\Keep (· = H1.size) h h4:=by
   rcases a with a|a
   ·obtain⟨h4,st4,a4,k4⟩:=a.st1 (i:=0) (v := .int .i64 n) (by simp) rfl
    exact⟨h4,st4,a4,k4⟩
   ·obtain⟨h4,st4,a4,k4⟩:=a.st1 (i:=0) (v := .int .i64 n) (by simp) rfl
    exact⟨h4,st4,a4,k4⟩
  rw[st4,zAW]
  refine zWv λh5 hcl=>?_
  rw[(a4.closed hcl).ld (i:=0) rfl,zAa]
  have kc:Keep (λb=>b=qo\/b=qp) H h5:=⟨by rw[hcl.1];have:=k.1;have:=k4.1;omega,λi hi hn=>by rw[hcl.2.1 i hi,k4.2 i (by have:=k.1;omega) (by omega),k.2 i hi hn]⟩
  refine⟨by rw[e],λe0=>?_,kc⟩
  have q:=(hw e0).keep k4 λb hb h=>by rcases hb with hb|hb|hb<;>omega
  obtain⟨q1,q2,q3,q4⟩:=q
  refine⟨q1.closed hcl,?_,?_,q4⟩
  ·obtain⟨ar,c,h1,h2⟩:=q2
   exact⟨ar,c,hcl.2.2 _ _ h1 (λds e=>by cases e),h2⟩
  ·obtain⟨ar,c,h1,h2⟩:=q3
   exact⟨ar,c,hcl.2.2 _ _ h1 (λds e=>by cases e),h2⟩
 rw[zUu a1' w,zAa]
 refine zAI (zR8 (hv.keep k02 λ_ _=>id) hd hc (hO.keep k02 λ_ h=>h.elim)) ?_
 rintro _ h3 ⟨rfl,k3⟩
 have k03:=k02.trans k3
 have a13:=a1'.keep k3 id
 have a23:=a2.keep k3 id
 have g3:=k3.1
 rw[zA7,zAa,zAl]
 cases hok:zEC m
 ·rw[if_pos (by rfl)]
  have e:zHG ps of m=10:=by unfold zHG;rw[hok];rfl
  exact fin 10 h3 (.inl a23) (k03.mono λ_ _ h=>h.elim) e.symm λh=>by rw[e]at h;cases h
 rw[if_neg (by decide),zBf,zAa,zAi,zDz a13,zAa]
 refine zAI (zAmo (p.keep k03 λ_ _=>id)) ?_
 rintro _ _ ⟨rfl,rfl⟩
 rw[zAl]
 by_cases hin:m.name∈ps
 ·rw[if_pos (by simpa using hin)]
  have e:zHG ps of m=44:=by unfold zHG;rw[hok,if_pos hin];rfl
  exact fin 44 h3 (.inl a23) (k03.mono λ_ _ h=>h.elim) e.symm λh=>by rw[e]at h;cases h
 rw[if_neg (by simpa using hin),zUu a13 w,zAa]
 obtain⟨f1,f2,f3⟩:=zM8 hok
 refine zAI (R:=λu H'=>u = .func (.func zDK) #[] #[Ptr h3.size 0,Ptr (h3.size+1) 0]/\At H' h3.size [Ptr o 0]/\At H' (h3.size+1) (zGN m vd vc vf)/\H'.size=h3.size+2/\Keep zAK h3 H') ?_ ?_
 ·apply zLV
  unfold zKb
  have ec:Value.cells (Ptr o 0)=[Ptr o 0].toArray:=rfl
  simp only[ec,zB8,zBb]
  have e1:(h3.push (.cells [Ptr o 0].toArray zIZ (0,0))).size=h3.size+1:=by simp
  have e2:At ((h3.push (.cells [Ptr o 0].toArray zIZ (0,0))).push (.cells (zGN m vd vc vf).toArray zAe (0,0))) (h3.push (.cells [Ptr o 0].toArray zIZ (0,0))).size (zGN m vd vc vf):=At.push
  rw[e1]at e2
  exact⟨by rw[e1],At.push.keep (S:=λ_=>False) Keep.push id,e2,by simp,Keep.push.trans Keep.push⟩
 rintro _ h11 ⟨rfl,ar1,ar2,s11,k11⟩
 have k011:=k03.trans k11
 have g03:=k03.1
 have a111:=a13.keep k11 id
 have a211:=a23.keep k11 id
 let St:=zAfS P of m vd vc vf h3.size o qo qp (h3.size+1)
 have st11:St h11:=⟨ar1,p.ao.keep k011 id,p.mo.keep k011 id,ar2,hv.keep k011 λ_ _=>id,λb hb=>by have:=(hP b hb).1;omega⟩
 have p11:zP6 ps of o qo qp h11:=p.keep k011 λ_ _=>id
 have sf:∀ {S:zA1} {h h':zAx},Keep S h h'->(∀ b,S b->h11.size<=b)->∀ b,b<h11.size->¬ S b:=λ_ hs b hb h=>by have:=hs b h;omega
 refine zAdS (n0:=H.size) (zAbC (P:=P) (of:=of) (m:=m) (vd:=vd) (vc:=vc) (vf:=vf) (qp:=qp) hI.nd hol hI.len f3 f1) (λx x'=>st11.keep (Keep.push.trans Keep.push:Keep zAK h11 _) λ_ _=>id) (by omega)
  (λtr Z h=>tr=[]/\Keep zAK h11 h/\∀ b,Z b->h11.size<=b) (λc h=>c = .ret/\zPa of m=true/\At h H1.size [.int .i64 41]/\Keep zAK H h) ⟨rfl,Keep.refl,λ_ h=>h.elim⟩
  (λtr Z Z' h h' ⟨e,kh,hz⟩ hs k hz'=>⟨e,kh.fresh k λb hb=>?_,λb hb=>(hz' b hb).elim (hz b) λh=>by omega⟩)
  (λc h h' ⟨e,e1,a,kh⟩ hs k=>⟨e,e1,a.keep k λhb=>?_,kh.fresh k λb hb=>?_⟩) (λ_ h=>h.elim) (λb hb=>st11.sr b hb) ?_ ?_ ?_
 ·rcases hb with hb|hb|rfl|rfl
  ·exact hb.elim
  ·exact hz b hb
  ·omega
  ·omega
 ·rcases hb with hb|hb|hb
  ·exact hb
  ·omega
  ·omega
 ·rcases hb with hb|rfl|rfl
  ·exact hb.elim
  ·omega
  ·omega
 ·rintro tr x Z h r hsz ⟨hcl,c,rfl⟩ hZ ⟨rfl,kh,_⟩ hl hrd K hN hE
  refine⟨rfl,r,hl,hrd,?_⟩
  generalize hhb:h.setIfInBounds (h11.size+1) (.loop { r with state := .busy })=hb at *
  have kb:Keep (· = h11.size+1) h hb:=by rw[<- hhb];exact Keep.set rfl
  have k11b:Keep zAK h11 hb:=kh.fresh kb λb hb=>by omega
  obtain⟨h18,st18,a18,k18⟩:=(a211.keep k11b id).st1 (i:=0) (v := .int .i64 41) (by simp) rfl
  rw[st18,zAW]
  refine hE _ _ (k18.mono λb _ e hh=>?_) ⟨rfl,hcl,a18,(k011.trans k11b).fresh k18 λb hb=>by omega⟩
  subst e
  rcases hh with hh|hh|hh|hh
  ·rcases hh with hh|hh|hh|hh|hh
   ·omega
   ·omega
   ·omega
   ·omega
   ·have:=(hP _ hh).1;omega
  ·have:=hZ _ hh;omega
  ·omega
  ·omega
 ·rintro tr Z h hsz hD ⟨rfl,kh,_⟩
  refine .inl ⟨rfl,?_⟩
  have hcf:zPa of m=false:=hD rfl
  have e:zHG ps of m=0:=by unfold zHG;rw[hok,if_neg hin,hcf];rfl
  have hnew:=zAdR hI.toOwnI hin hcf
  have p16:=p11.keep kh λ_ _=>id
  have a116:=a111.keep kh id
  have k016:=k011.trans kh
  have g16:=k016.1
  have nck1:∀ b,nck (Ptr b 0)=some (Ptr b 0):=λ_=>rfl
  simp only[nck1,zBf,zAi,zAu,zAa]
  rw[p16.ao.ld (i:=1) rfl,zAa,zDz a116,zAa]
  refine zAi0 p16.mp hin λh19 mp19 k19=>?_
  have p19:zP6 (ps++[m.name]) of o qo qp h19:=⟨p16.ao.keep k19 hp0.2,p16.mo.keep k19 p.ne,mp19,p.ne⟩
  have a119:=a116.keep k19 (by omega)
  have a219:=(a211.keep kh id).keep k19 (by omega)
  have hv19:zLd P h19 m vd vc vf:=(hv.keep k016 λ_ _=>id).keep k19 λb hb e=>(hP b hb).2.2 e
  have k019:Keep (λb=>b=qo\/b=qp) H h19:=(k016.mono λ_ _ h=>h.elim).trans (k19.mono λ_ _ h => .inr h)
  have g19:=k19.1
  refine zOt (λ_ h=>zP6 (ps++[m.name]) (zAev of m) o qo qp h/\At h H1.size [.int .i64 0]/\Keep (λb=>b=qo\/b=qp) H h) (λk20 hk20=>?_) ?_
  rotate_left
  ·rintro _ h21 ⟨q1,q2,q3⟩
   exact fin 0 h21 (.inl q2) q3 e.symm λ_=>q1
  have hlf:=hv19.f.len
  rw[zAd]at hlf
  rw[(zHv a119 w).2.2,zAa,hlf,zAa]
  let ofi:Nat->zTr:=λi=>of++(m.files.take i).map λf=>(f.name,m.name)
  refine zKj (λv h=>∃ i:Nat,i<=m.files.length/\v = .int .i64 (i:Nat)/\zP6 (ps++[m.name]) (ofi i) o qo qp h/\Keep (· = qo) h19 h) (λv _=>match v with | .int _ t=>m.files.length-t.toNat|_=>0) ⟨0,zAz _,rfl,by show zP6 _ (of++[]) _ _ _ _;rw[zAP];exact p19,Keep.refl⟩ ?_
  rintro _ h23 ⟨i,hi,rfl,p23,k23⟩ k22 hk22
  have g23:=k23.1
  rw[zNZ,zAa,zAl]
  by_cases hlt:i<m.files.length
  rotate_left
  ·rw[if_neg (by simpa using hlt)]
   obtain rfl:i=m.files.length:=by omega
   have e1:ofi m.files.length=zAev of m:=by show of++_=_;rw[zAr (zAh _)];rfl
   rw[e1]at p23
   exact hk20 _ _ ⟨p23,a219.keep k23 (by omega),k019.trans (k23.mono λ_ _ h => .inl h)⟩
  rw[if_pos (by simpa using hlt)]
  have hg:m.files[i]? = some m.files[i]:=zAj hlt
  have hfm:=zAH hlt
  have hfni:∀ t∈ofi i,t.1≠m.files[i].name:=λt ht et=>by
   rcases zAp.1 ht with ht|ht
   ·exact hnew _ hfm (by rw[<- et];exact zAo.2 ⟨t,ht,rfl⟩)
   ·obtain⟨f,hf,rfl⟩:=zAo.1 ht
    obtain⟨j,hj,rfl⟩:=zBK hf
    rw[zA4]at hj
    have hp:=zBH.1 (zBu.1 (zB6.1 f2)) j i (by omega) hlt (by omega)
    rw[List.getElem_take]at et
    exact hp et
  generalize m.files[i]=f at *
  have hwf:=w.files f hfm
  obtain⟨b,o',hix,hpt,_⟩:=(hv19.keep k23 λb hb e=>(hP b hb).2.1 e).f.at (i:=i) (x:=zEj f) (by rw[zAq,hg];rfl)
  rw[hix .i64,zAa,hpt.agg (zDR hwf),zAa]
  simp only[zZb,zBb]
  generalize hH24:h23.push (.cells (zEj ⟨[],List.replicate 32 0,0⟩).toArray zBn (0,0))=h24
  have k24:Keep zAK h23 h24:=by rw[<- hH24];exact Keep.push
  have a24:At h24 h23.size (zEj ⟨[],List.replicate 32 0,0⟩):=by rw[<- hH24];exact At.push
  obtain⟨h25,st25,a25,k25⟩:=a24.st (n:=34) (ds:=zEj f) (zDR zAfJ) (zDR hwf) zM5
  have k2325:Keep zAK h23 h25:=k24.fresh k25 λb hb=>by omega
  have p25:=p23.keep k2325 λ_ _=>id
  have a125:=(a119.keep k23 (by omega)).keep k2325 id
  simp only[zBf,zAi,zAu,zAa]
  rw[st25,zAW,p25.ao.ld (i:=0) rfl,zAa,a25.ld (i:=0) (v:=str f.name) rfl,zAa,zDz a125,zAa]
  refine zAfR p25.mo hfni λh26 mo26 k26=>?_
  rw[zBV (by omega),zAa]
  have e2:ofi (i+1)=ofi i++[(f.name,m.name)]:=by
   show of++_=(of++_)++_
   rw[zAG,hg];simp
  refine hk22 _ _ ⟨i+1,by omega,rfl,⟨p25.ao.keep k26 hp0.1,by rw[e2];exact mo26,p25.mp.keep k26 λe=>p.ne e.symm,p.ne⟩,(k23.trans (k2325.mono λ_ _ h=>h.elim)).trans k26⟩ (by show m.files.length-(i+1)<m.files.length-i;omega)
 ·rintro c h hsz ⟨rfl,hcl,a,kh⟩
  refine .inr ⟨rfl,?_⟩
  have e:zHG ps of m=41:=by unfold zHG;rw[hok,if_neg hin,hcl];rfl
  refine zWv λh30 hcl'=>?_
  rw[(a.closed hcl').ld (i:=0) rfl,zAa]
  exact⟨by rw[e],λh=>absurd (e.symm.trans h) (by decide),(zH5 kh hcl').mono λ_ _ h=>h.elim⟩
end Go.Proofs.YticdfkoncnnmmaaGreatDoor
