import Derived.Test.YticdfkoncnnmmaaGreatDoorG8
import Derived.Test.YticdfkoncnnmmaaGreatDoorH4
import Derived.Test.YticdfkoncnnmmaaGreatDoorGE
import Derived.Test.YticdfkoncnnmmaaGreatDoorG1
set_option linter.unusedSimpArgs false
set_option linter.unusedVariables false
set_option maxRecDepth 100000
namespace Go.X
def zAiq (P:Program)(fv:Value)(Nx:List (List Value)->List Value->Prop)(Dn:List (List Value)->Prop)(Sw Sr:zA2)(St:zAw->Prop):Prop :=
 ∀ (yv:Value) (h0:zAw) (J:List (List Value)->(zA2)->zAw->Prop) (E:zAw->Prop),St h0->J [] (λ_=>False) h0 ->
  (∀ (tr:List (List Value)) (x:List Value) (Z:zA2) (h:zAw),Nx tr x->J tr Z h->zDM P yv x h λv h'=>h.size<=h'.size/\(∀ b,Sr b\/Z b->b<h.size->h'[b]? = h[b]?)/\((v = .bool true/\J (tr++[x]) Z h')\/(v = .bool false/\E h'))) ->
  (∀ tr Z Z' h h',J tr Z h->Keep (λb=>Sw b\/Z b) h h'->(∀ b,Z' b->Z b\/(h.size<=b/\b<h'.size))->J tr Z' h')->(∀ h h',E h->Keep Sw h h'->E h') ->
  zAbW P fv [yv] h0 λ_ h=>(∃ tr Z,Dn tr/\J tr Z h)\/E h
theorem zAdn {P:Program}{n0:Nat}{fv:Value}{H:zAw}{B:List Value->zAw->(Option Code->zAw->Prop)->Prop}{rest:Option Code->zAw->Prop}
  {Nx:List (List Value)->List Value->Prop} {Dn:List (List Value)->Prop} {Sw Sr:zA2} {St:zAw->Prop} (hit:zAiq P fv Nx Dn Sw Sr St) (hst:∀ o o',St ((H.push o).push o')) (hn:n0<=H.size)
  (Inv:List (List Value)->(zA2)->zAw->Prop) (Ex:Code->zAw->Prop) (h0:Inv [] (λ_=>False) H)
  (sI:∀ tr Z Z' h h',Inv tr Z h->H.size<=h.size->Keep (λb=>Sw b\/Z b\/b=H.size\/b=H.size+1) h h'->(∀ b,Z' b->Z b\/(h.size<=b/\b<h'.size))->Inv tr Z' h')
  (sE:∀ c h h',Ex c h->H.size<=h.size->Keep (λb=>Sw b\/b=H.size\/b=H.size+1) h h'->Ex c h')
  (hSw:∀ b,Sw b->b<H.size) (hSr:∀ b,Sr b->b<H.size)
  (hB:∀ (tr:List (List Value)) (x:List Value) (Z:zA2) (h:zAw) (r:Loop),H.size+2<=h.size->Nx tr x->(∀ b,Z b->H.size+2<=b)->Inv tr Z h->h[H.size+1]? = some (.loop r)->r.state = .ready ->
   ∀ K:Option Code->zAw->Prop,(∀ h',Keep (λb=>¬ (Sr b\/Z b\/b=H.size\/b=H.size+1)) (h.setIfInBounds (H.size+1) (.loop { r with state := .busy })) h'->Inv (tr++[x]) Z h'->K none h') ->
    (∀ c h',Keep (λb=>¬ (Sr b\/Z b\/b=H.size\/b=H.size+1)) (h.setIfInBounds (H.size+1) (.loop { r with state := .busy })) h'->Ex c h'->K (some c) h')->B x h K)
  (hrest:∀ tr Z h,H.size<=h.size->Dn tr->Inv tr Z h->rest none h) (hexit:∀ c h,H.size<=h.size->Ex c h->rest (some c) h):zSC P n0 fv H B rest:=by
 refine⟨hn,λrec hr hp hyield=>?_⟩
 have hL:((H.push (.deferred (some []))).push (.loop rec))[H.size+1]? = some (.loop rec):=by
  have:=zCa (H:=H.push (.deferred (some []))) (y := .loop rec)
  rwa [show(H.push (.deferred (some []))).size=H.size+1 by simp]at this
 have hSL:¬ Sw (H.size+1):=λh=>by have:=hSw _ h;omega
 have hSL2:¬ Sr (H.size+1):=λh=>by have:=hSr _ h;omega
 have main:=hit (.func (.yield (H.size+1)) #[] #[]) ((H.push (.deferred (some []))).push (.loop rec)) (λtr Z h=>Inv tr Z h/\h[H.size+1]? = some (.loop rec)/\∀ b,Z b->H.size+2<=b)
  (λh=>∃ c,Ex c h/\∃ r,h[H.size+1]? = some (.loop r)/\r.state = .done/\r.pending=some c) (hst _ _)
  ⟨sI _ _ _ _ _ h0 (zAh _) ((Keep.push (S:=λb=>Sw b\/False\/b=H.size\/b=H.size+1)).trans Keep.push) (λ_ h=>h.elim),hL,λ_ h=>h.elim⟩ ?_
  (λtr Z Z' h h' ⟨h1,h2,h3⟩ k hz=>⟨sI _ _ _ _ _ h1 (by have:=lt_of h2;omega) (k.mono λ_ _ h=>h.elim .inl λh => .inr (.inl h)) hz,k.at h2 (λh=>h.elim hSL λh=>by have:=h3 _ h;omega),λb hb=>(hz b hb).elim (h3 b) λh=>by have:=lt_of h2;omega⟩)
  (λh h' ⟨c,h1,r,h2,h3⟩ k=>⟨c,sE _ _ _ h1 (by have:=lt_of h2;omega) (k.mono λ_ _ h => .inl h),r,k.at h2 hSL,h3⟩)
 ·obtain⟨f,fi,ca,e1,e2,hc⟩:=main
  refine⟨f,fi,ca,e1,e2,λw hw=>(hc w hw).mono λe w'=>?_⟩
  rintro⟨v,he,hs,hJ⟩
  refine⟨v,he,hs,?_⟩
  rcases hJ with ⟨tr,Z,hD,hI,hl,hz⟩|⟨c,hE,r,hl,hd,hpend⟩
  ·refine⟨rec,hl,by rw[hr];decide,?_⟩
   rw[hp]
   have:=lt_of hl
   refine hrest tr Z _ ?_ hD (sI _ _ _ _ _ hI (by omega) (Keep.set (.inr (.inr (.inr rfl)))) λb hb => .inl hb)
   simp;omega
  ·refine⟨r,hl,by rw[hd];decide,?_⟩
   rw[hpend]
   have:=lt_of hl
   refine hexit _ _ ?_ (sE _ _ _ hE (by omega) (Keep.set (.inr (.inr rfl))))
   simp;omega
 ·rintro tr x Z h hx ⟨hI,hl,hz⟩
  have hlt:=lt_of hl
  have hZL:¬ Z (H.size+1):=λh=>by have:=hz _ h;omega
  refine .inr ⟨H.size+1,#[],#[],rfl,hyield _ _ _ hl (hB tr x Z h rec (by omega) hx hz hI hl hr _ ?_ ?_)⟩
  ·intro h' k hI'
   have hl':=k.at (zBm (y := .loop { rec with state := .busy }) hl) (λh=>h (.inr (.inr (.inr rfl))))
   have hsize:h.size<=h'.size:=by have:=k.1;simpa using this
   refine⟨_,hl',by simpa using hsize,λb hb hlt=>?_,.inl ⟨rfl,?_,?_,hz⟩⟩
   ·have hne:H.size+1≠b:=λe=>hb.elim (λh=>hSL2 (e ▸ h)) λh=>hZL (e ▸ h)
    rw[zAD,if_neg hne,k.2 b (by simpa using hlt) (λhw=>hw (hb.elim .inl λh => .inr (.inl h))),zAD,if_neg hne]
   ·have:=lt_of hl'
    exact sI _ _ _ _ _ hI' (by omega) (Keep.set (.inr (.inr (.inr rfl)))) λb hb => .inl hb
   ·rw[zBm hl']
    congr 2
    cases rec;simp only at hr hp;subst hr hp;rfl
  ·intro c h' k hE
   have hl':=k.at (zBm (y := .loop { rec with state := .busy }) hl) (λh=>h (.inr (.inr (.inr rfl))))
   have hsize:h.size<=h'.size:=by have:=k.1;simpa using this
   have:=lt_of hl'
   refine⟨_,hl',by simpa using hsize,λb hb hlt=>?_,.inr ⟨rfl,c,sE _ _ _ hE (by omega) (Keep.set (.inr (.inr rfl))),_,zBm hl',rfl,rfl⟩⟩
   have hne:H.size+1≠b:=λe=>hb.elim (λh=>hSL2 (e ▸ h)) λh=>hZL (e ▸ h)
   rw[zAD,if_neg hne,k.2 b (by simpa using hlt) (λhw=>hw (hb.elim .inl λh => .inr (.inl h))),zAD,if_neg hne]
end Go.X
namespace Go.Proofs.YticdfkoncnnmmaaGreatDoor
open Go.X Go.X.Diff
theorem zAaN.len {H:zAw}{r q:Nat}{es:List (Value×Value)}{vis:List Nat}(h:zAaN H r q es vis):vis.length<=es.length:=by
 obtain⟨arr,clock,seen,_,he,_,_,_,_,hv,hl,_⟩:=h
 have hn:es.length=arr.size:=by rw[<- he];simp
 rw[hn]
 exact zV3 _ hv hl
theorem zAlN:prg.underlying zDb=some (.map zBd zBd):=by kernel_rfl
def zAgH (ks:List (List UInt8))(tr:List (List Value))(x:List Value):Prop:=(∃ k∈ks,x=[str k]/\x∉tr)/\tr.length<ks.length
def zAgI (ks:List (List UInt8))(tr:List (List Value)):Prop:=tr.Nodup/\(∀ x∈tr,∃ k∈ks,x=[str k])/\∀ k∈ks,[str k]∈tr
theorem zAdo {q r:Nat}{l:List (List UInt8×List UInt8)}(hnd:(l.map (·.1)).Nodup) :
  zAiq prg (.func (.func zBP) #[] #[Ptr r 0]) (zAgH (l.map (·.1))) (zAgI (l.map (·.1))) (λ_=>False) (λb=>b=q\/b=r) (λh=>At h r [.map (some q)]/\zZW h q l):=by
 rintro yv h0 J E ⟨ar,hm⟩ hJ hbody sJ sE
 refine⟨zBP,#[],#[Ptr r 0],rfl,by kernel_rfl,?_⟩
 show zAz prg zBP [yv,Ptr r 0] h0 _
 apply zFu
 unfold zD0
 rw[ar.ld (i:=0) rfl,zAa]
 refine zAfi zAlN hm λh1 hI k1=>?_
 have hr:r≠h0.size:=by have:=ar.lt;omega
 have hq:q≠h0.size:=by obtain⟨_,_,hb,_⟩:=hm;have:=lt_of hb;omega
 have hg1:=k1.1
 have hit1:h0.size<h1.size:=by obtain⟨_,_,_,_,_,_,_,h5,_⟩:=hI;exact lt_of h5
 let key:Nat->List Value:=λi=>[str (l.getD i ([],[])).1]
 let I:zAw->Prop:=λh=>∃ vis,zAaN h h0.size q (l.map λe=>(str e.1,str e.2)) vis/\At h r [.map (some q)]/\J (vis.map key) (· = h0.size) h
 have hkey:∀ {i:Nat} {x:Value×Value},(l.map λe=>(str e.1,str e.2))[i]? = some x->key i=[x.1]/\∃ k∈l.map (·.1),key i=[str k]:=λ{i x} hx=>by
  rw[zAp]at hx
  obtain⟨e,he,rfl⟩:=zBy.1 hx
  have:l.getD i ([],[])=e:=by rw[List.getD,he];rfl
  refine⟨by show [str _]=_;rw[this],e.1,zAo.2 ⟨e,zAB he,rfl⟩,by show [str _]=_;rw[this]⟩
 have hinj:∀ {i j:Nat},i<l.length->j<l.length->key i=key j->i=j:=λ{i j} hi hj e=>by
  have e1:(l.getD i ([],[])).1=(l.getD j ([],[])).1:=by
   have e0:[str (l.getD i ([],[])).1]=[str (l.getD j ([],[])).1]:=e
   exact zSp (by simpa using e0)
  have hp:=zBG.1 (zBA.1 (zB0.1 hnd))
  have gi:l.getD i ([],[])=l[i]:=by simp[List.getD,hi]
  have gj:l.getD j ([],[])=l[j]:=by simp[List.getD,hj]
  rw[gi,gj]at e1
  rcases Nat.lt_trichotomy i j with h|h|h
  ·exact absurd e1 (hp i j hi hj h)
  ·exact h
  ·exact absurd e1.symm (hp j i hj hi h)
 refine L0_i I (λh=>match h[h0.size]? with|some (.mapIter _ _ seen _)=>l.length-seen.size|_=>0) ⟨[],hI,ar.keep k1 id,sJ _ _ _ _ _ hJ (k1.mono λ_ _ h=>h.elim) λb hb => .inr (by subst hb;exact⟨zAh _,hit1⟩)⟩ ?_
 rintro h3 ⟨vis,hI3,ar3,hJ3⟩ k2 hk2
 have hlen3:=hI3.len
 rw[zAf]at hlen3
 have hvb:∀ i∈vis,i<l.length:=λi hi=>by
  obtain⟨arr,_,_,_,he,_,_,_,_,_,hl',_⟩:=hI3
  have:=hl' i hi
  have hn:=congrArg List.length he
  rw[zAf,zAf]at hn
  rw[<- hn];simpa using this
 have hvn:vis.Nodup:=by obtain⟨_,_,_,_,_,_,_,_,_,h,_⟩:=hI3;exact h
 refine zAie hI3 (λi x hx hnv h4 hI4 k4=>?_) λhall=>?_
 ·have hil:i<l.length:=by have:=(zAP.1 hx).1;simpa using this
  obtain⟨hk1,kk,hkm,hk2'⟩:=hkey hx
  rw[show zFg 0 (.tuple #[.bool true,x.1,x.2])=some (.bool true) from rfl,zAa,zAl,if_pos rfl]
  refine zAfj hI4 hx ?_
  rw[show zFg 0 (.tuple #[x.1,x.2])=some x.1 from rfl,zAa,<- hk1]
  have hJ4:J (vis.map key) (· = h0.size) h4:=sJ _ _ _ _ _ hJ3 (k4.mono λ_ _ h => .inr h) λb hb => .inl hb
  have ar4:=ar3.keep k4 hr
  have hnx:zAgH (l.map (·.1)) (vis.map key) (key i):=⟨⟨kk,hkm,hk2',λhm=>by
   obtain⟨j,hj,e⟩:=zAo.1 hm
   exact hnv (hinj (hvb j hj) hil e ▸ hj)⟩,by
   have:=hI4.len
   rw[zAq,zBe,zAf]at this
   rw[zAf,zAf];omega⟩
  refine(hbody _ _ _ h4 hnx hJ4).mono ?_
  rintro v h6 ⟨hsz,hS,hv⟩
  have k46:Keep (λb=>¬ ((b=q\/b=r)\/b=h0.size)) h4 h6:=⟨hsz,λb hb hn=>hS b (Classical.not_not.1 hn) hb⟩
  rcases hv with ⟨rfl,hJ6⟩|⟨rfl,hE⟩
  ·rw[zA8,zAa,zAl,if_neg (by decide)]
   have hI6:=hI4.keep k46 (λh=>h (.inr rfl)) (λh=>h (.inl (.inl rfl)))
   refine hk2 _ ⟨vis++[i],hI6,ar4.keep k46 (λh=>h (.inl (.inr rfl))),by rw[zAE];exact hJ6⟩ ?_
   have size_of:∀ {h:zAw} {vis:List Nat},zAaN h h0.size q (l.map λe=>(str e.1,str e.2)) vis->∃ m s seen c,h[h0.size]? = some (.mapIter m s seen c)/\seen.size=vis.length:=λhI=>by
    obtain⟨_,c,seen,_,_,_,_,h5,_,_,_,_,hsv⟩:=hI
    refine⟨_,_,seen,_,h5,?_⟩
    have:=congrArg List.length hsv
    simpa using this
   obtain⟨m,s,seen,c,e1,e2⟩:=size_of hI3
   obtain⟨m',s',seen',c',e1',e2'⟩:=size_of hI6
   have hl6:=hI6.len
   rw[zAf]at hl6
   rw[e1,e1']
   show l.length-seen'.size<l.length-seen.size
   rw[e2,e2',zAq,zBe]
   rw[zAq,zBe]at hl6
   omega
  ·rw[zA8,zAa,zAl,if_pos (by rfl)]
   exact .inr hE
 ·rw[show zFg 0 (.tuple #[.bool false])=some (.bool false) from rfl,zAa,zAl,if_neg (by decide)]
  refine .inl ⟨_,_,⟨?_,λx hx=>?_,λk hk=>?_⟩,hJ3⟩
  ·rw[zB0,zBA]
   exact(zB0.1 hvn).imp_of_mem λ{a b} ha hb hne e=>hne (hinj (hvb a ha) (hvb b hb) e)
  ·obtain⟨i,hi,rfl⟩:=zAo.1 hx
   have hil:=hvb i hi
   obtain⟨_,kk,hkm,e⟩:=hkey (i:=i) (x:=(str l[i].1,str l[i].2)) (by rw[zAp,zAj hil];rfl)
   exact⟨kk,hkm,e⟩
  ·obtain⟨e,he,rfl⟩:=zAo.1 hk
   obtain⟨i,hi,rfl⟩:=zBx he
   refine zAo.2 ⟨i,hall i (by simpa using hi),?_⟩
   show [str (l.getD i ([],[])).1]=_
   have gi:l.getD i ([],[])=l[i]:=by simp[List.getD,hi]
   rw[gi]
open Go.Sort (swp PermIn SortedIn Below SWO)
theorem zAft {a b:List UInt8}:less a b=decide (zNo a b<0):=by
 unfold zNo
 cases h:less a b
 ·rw[if_neg (by decide)]
  split<;>simp
 ·simp
theorem zV9:SWO less:=by
 have:less=λa b=>decide (zNo a b<0):=by funext a b;exact zAft
 rw[this];exact zAdf zF7 id
theorem zAkh {H:zAw}{a b:List UInt8}:zAz prg zKz [str a,str b] H λu H'=>u = .bool (less a b)/\Keep zAM H H':=by
 apply zN8
 unfold zNl
 refine zAJ zYC ?_
 rintro _ _ ⟨rfl,rfl⟩
 refine zLF (by decide) ?_
 refine zLG.2 ?_
 refine zDS rfl ?_
 rw[show zAC .no .lss (str a) (str b)=some (.bool (less a b)) from by rw[zGn];simp only[zS3,zMv],zAa]
 show Mpu (zBH (.bool false) (.bool true) (.bool (less a b))) _
 rw[zAv,if_neg (by decide),zAa]
 exact⟨rfl,Keep.refl⟩
theorem zAgJ {H:zAw}{u:Nat}(hu:u<1000000):zAz prg zET [.int .u64 (u:Nat)] H λv H'=>(∃ m:Nat,v = .int .i64 (m:Nat)/\m<=1000)/\H=H':=by
 by_cases h0:0<u
 ·refine zAz.mono (zAdd h0 hu) ?_
  intro v h hR
  obtain⟨m,h1,h2,h3⟩:=zAdh hu hR
  exact⟨⟨m,h1,h2⟩,h3⟩
 obtain rfl:u=0:=by omega
 apply zHj
 unfold zIR
 rw[zAl,if_neg (by decide)]
 refine zAJ (R:=λv H'=>(∃ m:Nat,v = .int .i64 (m:Nat)/\m<=1000)/\H=H') ?_ λv h hR=>hR
 apply zE8
 unfold zF3
 have g1:zAC .no .geq (.int .u64 ((0:Nat):Int)) (.int .u64 4294967296)=some (.bool false):=rfl
 have g2:zAC .no .geq (.int .u64 ((0:Nat):Int)) (.int .u64 65536)=some (.bool false):=rfl
 have g3:zAC .no .geq (.int .u64 ((0:Nat):Int)) (.int .u64 256)=some (.bool false):=rfl
 simp only[zAb1,g1,g2,g3,zAa,zAl,zAb,if_false]
 have:=zYj (x:=0) (by omega)
 exact zPZ (R:=λv _=>(∃ m:Nat,v = .int .i64 (m:Nat)/\m<=1000)/\True) (H:=H) (off:=0) (x:=0) (by omega) (by omega) ⟨⟨_,rfl,by omega⟩,trivial⟩
theorem zAdp {F:zA2}{H:zAw}{v:Value}{l:List (List UInt8)}(hv:BufE 1 F H v (zKl l))(hF:∀ b,F b->b<H.size)(hl:l.length<=900000) :
  zAz prg zFa [v] H λ_ H'=>(∃ l':List (List UInt8),l'.Perm l/\l'.Pairwise (λx y=>less y x=false)/\BufE 1 F H' v (zKl l'))/\Keep F H H':=by
 apply zIL
 unfold zGO
 have hlen:=hv.sl.len
 rw[zH6]at hlen
 let enc:List UInt8->List Value:=λa=>[str a]
 have he:l.map enc=zKl l:=by simp[zGD,enc]
 have ok:zIM zVj enc (Ev1 enc) less (λ_=>True) F v:=⟨λhr _ hi=>zTf hr hi,λhr _ _ hi hj=>zXk hr hi hj,λ{x y h K} hg hk=>by
  refine zAz.mono (zAkh (a:=x) (b:=y)) ?_
  rintro _ h' ⟨rfl,k⟩
  exact hk h' k⟩
 rw[hlen,zAa,zAdg (by omega),zAa]
 refine zAJ (zAgJ (by omega)) ?_
 rintro _ _ ⟨⟨m,rfl,hm⟩,rfl⟩
 refine zAJ (zYG zYE ok zV9 (l:=l) (m:=m) (by rw[he];exact hv) (λ_ _=>trivial) hF hl hm) ?_
 rintro _ H' ⟨⟨l',h1,h2,h3⟩,k⟩
 exact⟨⟨l',h1,h2,by rw[show zKl l'=l'.map enc by simp[zGD,enc]];exact h3⟩,k⟩
theorem BufE.closed {n n0:Nat}{F:zA2}{h h':zAw}{v:Value}{xs:List (List Value)}(b:BufE n F h v xs)(c:zOI n0 h h'):BufE n F h' v xs:=by
 obtain⟨h1,h2,h3|⟨b,o,k,cs,T,f,e,hf,hk,hb,hr⟩⟩:=b
 ·exact⟨h1,h2,.inl h3⟩
 ·exact⟨h1,h2,.inr ⟨b,o,k,cs,T,f,e,hf,hk,c.2.2 _ _ hb (λds e=>by cases e),hr⟩⟩
theorem zAdq {ks:List (List UInt8)}(hk:ks.Nodup){tr:List (List Value)}(h:zAgI ks tr):∃ l:List (List UInt8),tr=zKl l/\l.Perm ks:=by
 obtain⟨h1,h2,h3⟩:=h
 have:∃ l:List (List UInt8),tr=zKl l:=by
  clear h1 h3
  induction tr with
  | nil=>exact⟨[],rfl⟩
  | cons x tr ih =>
   obtain⟨l,rfl⟩:=ih λy hy=>h2 y (by simp[hy])
   obtain⟨k,_,rfl⟩:=h2 x (by simp)
   exact⟨k::l,by simp[zGD]⟩
 obtain⟨l,rfl⟩:=this
 refine⟨l,rfl,?_⟩
 have hn:l.Nodup:=by
  have e:zKl l=l.map λa=>[str a]:=by simp[zGD]
  rw[e,zB0,zBA]at h1
  exact zB0.2 (h1.imp λ{a b} h e=>h (by rw[e]))
 have hm:∀ a,a∈l↔a∈ks:=λa=>by
  constructor
  ·intro ha
   obtain⟨k,hk',e⟩:=h2 [str a] (by simpa [zGD] using ha)
   have:a=k:=zSp (by simpa using e)
   rw[this];exact hk'
  ·intro ha
   have:=h3 a ha
   simpa [zGD] using this
 exact(List.perm_ext_iff_of_nodup hn hk).2 hm
theorem zUc {H:zAw}{q r:Nat}{l:List (List UInt8×List UInt8)}(hnd:(l.map (·.1)).Nodup)(hl:l.length<=1000000)(ar:At H r [.map (some q)])(hm:zZW H q l) :
  zAz prg zEe [.slice none 0 0,.func (.func zBP) #[] #[Ptr r 0]] H λu H'=>(∃ ks:List (List UInt8),ks.Perm (l.map (·.1))/\BufE 1 (λb=>H.size<=b/\b<H'.size) H' u (zKl ks))/\Keep zAM H H':=by
 apply zHk
 unfold zFF
 have ec:Value.cells (.slice none 0 0)=[Value.slice none 0 0].toArray:=rfl
 rw[ec,zBa]
 generalize hH1:H.push (.cells [Value.slice none 0 0].toArray zUW (0,0))=H1
 have k1:Keep zAM H H1:=by rw[<- hH1];exact Keep.push
 have a1:At H1 H.size [.slice none 0 0]:=by rw[<- hH1];exact At.push
 have s1:H1.size=H.size+1:=by rw[<- hH1];simp
 have hq:q<H.size:=by obtain⟨_,_,hb,_⟩:=hm;exact lt_of hb
 let Inv:List (List Value)->(zA2)->zAw->Prop:=λtr Z h=>(∃ u F,At h H.size [u]/\BufE 1 F h u tr/\∀ b,F b->H1.size+2<=b/\b<h.size/\¬ Z b)/\(∀ b,Z b->H1.size<=b/\b<h.size)/\Keep zAM H h/\tr.length<=l.length
 have hz:zBE prg zBd=some [str []].toArray:=zAe6
 have hr:r<H.size:=ar.lt
 refine zAdn (n0:=H.size) (zAdo (q:=q) (r:=r) hnd) (λo o'=>?_) (by omega) Inv (λ_ _=>False) ⟨⟨_,λ_=>False,a1,BufE.nil,λb hb=>hb.elim⟩,λb hb=>hb.elim,k1,zAA _⟩ ?_ (λ_ _ _ h=>h.elim) (λb hb=>hb.elim) (λb hb=>by rcases hb with rfl|rfl<;>omega) ?_ ?_ (λ_ _ _ h=>h.elim)
 ·have kk:Keep zAM H ((H1.push o).push o'):=(k1.trans Keep.push).trans Keep.push
  exact⟨ar.keep kk id,hm.keep kk id⟩
 ·rintro tr Z Z' h h' ⟨⟨u,F,au,hb,hF⟩,hZ,kh,hlen⟩ hsz k hz'
  have hsz':=k.1
  refine⟨⟨u,F,au.keep k (λhh=>?_),hb.keep k λb hb hh=>?_,λb hb=>⟨(hF b hb).1,by have:=(hF b hb).2.1;omega,λhh=>(hz' b hh).elim (hF b hb).2.2 λh=>by have:=(hF b hb).2.1;omega⟩⟩,λb hb=>(hz' b hb).elim (λh=>by have:=hZ b h;omega) λh=>by omega,kh.fresh k λb hb=>?_,hlen⟩
  ·rcases hh with hh|hh|hh|hh
   ·exact hh
   ·have:=hZ _ hh;omega
   ·omega
   ·omega
  ·have:=hF b hb
   rcases hh with hh|hh|hh|hh
   ·exact hh
   ·exact this.2.2 hh
   ·omega
   ·omega
  ·rcases hb with hb|hb|hb|hb
   ·exact hb.elim
   ·have:=hZ b hb;omega
   ·omega
   ·omega
 ·rintro tr x Z h3 rl hsz ⟨⟨k,hk,rfl,hn⟩,hlt⟩ hZ2 ⟨⟨u,F,au,hb,hF⟩,hZ,kh,hlen⟩ hl3 hst K hK _
  refine⟨rfl,rl,hl3,hst,?_⟩
  generalize hH7:h3.setIfInBounds (H1.size+1) (.loop { rl with state := .busy })=h7
  have k7:Keep (· = H1.size+1) h3 h7:=by rw[<- hH7];exact Keep.set rfl
  have au7:=au.keep k7 (by omega)
  have hb7:=hb.keep k7 λb hb e=>by have:=(hF b hb).1;omega
  have e7:h7.size=h3.size:=by rw[<- hH7];simp
  have hbs:zGf prg zBd 1 [(0,str k)]=some #[str k]:=zAlj
  rw[au7.ld (i:=0) rfl,zAa]
  show zD1 h7 zBd 1 (zGf prg zBd 1 [(0,str k)]) _
  rw[hbs,zCh]
  generalize hH8:h7.push (.cells #[str k] zBd (0,0))=h8
  have k8:Keep zAM h7 h8:=by rw[<- hH8];exact Keep.push
  have hx8:SlE 1 (· = h7.size) h8 (.slice (some ⟨h7.size,0,none⟩) 1 1) [[str k]]:=⟨⟨_,1,rfl,zAh _,.inr ⟨h7.size,0,rfl,rfl,by show Pt h8 h7.size 0 [str k];rw[<- hH8];exact Pt.of zCa⟩⟩,λx hx=>by simp at hx;subst hx;rfl,λx hx c hc=>by simp at hx;subst hx;simp at hc;subst hc;rfl⟩
  have g8:=k8.1
  rw[zAf]at hlt
  refine((hb7.keep k8 λ_ _=>id).mono (G:=λb=>F b\/h8.size<=b) λb hb => .inl hb).app hx8 (by omega) (by rw[zBe];omega) (.inr (zAh _)) λt h9 hb9 k9=>?_
  have g9:=k9.1
  have au9:=(au7.keep k8 id).keep k9 (λhh=>hh.elim (λhh=>by have:=(hF _ hh).1;omega) λhh=>by have:=au7.lt;omega)
  have ht1:t.oneCell'=true:=hb9.sl.oneC
  obtain⟨h10,w10,a10,k10⟩:=au9.st1 (i:=0) (v:=t) (by simp) ht1
  rw[w10,zAV]
  have hF9:∀ b,(F b\/h8.size<=b)->b≠H.size:=λb hb e=>by
   subst e
   rcases hb with hb|hb
   ·have:=(hF _ hb).1;omega
   ·have:=au7.lt;omega
  have g10:=k10.1
  refine hK _ ?_ ⟨⟨t,λb=>(F b\/h8.size<=b)/\b<h9.size,a10,(BufE.re hb9 λb hb hF=>⟨hF,hb⟩).keep k10 λb hb e=>hF9 b hb.1 e,λb hb=>⟨hb.1.elim (λh=>(hF b h).1) λh=>by omega,by have:=k10.1;omega,λhh=>?_⟩⟩,λb hb=>⟨(hZ b hb).1,by have:=(hZ b hb).2;omega⟩,?_,by rw[zAq,zBe];omega⟩
  ·let W:zA2:=λb=>¬ ((b=q\/b=r)\/Z b\/b=H1.size\/b=H1.size+1)
   have c8:Keep W h7 h8:=k8.mono λ_ _ h=>h.elim
   have c9:Keep W h8 h9:=k9.mono λb hlt hb hh=>by
    have hb1:H1.size+2<=b/\¬ Z b:=hb.elim (λh=>⟨(hF b h).1,(hF b h).2.2⟩) λh=>⟨by omega,λhz=>by have:=hZ b hz;omega⟩
    rcases hh with (hh|hh)|hh|hh|hh
    ·omega
    ·omega
    ·exact hb1.2 hh
    ·omega
    ·omega
   have c10:Keep W h9 h10:=k10.mono λb hlt hb hh=>by
    rcases hh with (hh|hh)|hh|hh|hh
    ·omega
    ·omega
    ·have:=hZ _ hh;omega
    ·omega
    ·omega
   rw[hH7]
   exact(c8.trans c9).trans c10
  ·rcases hb.1 with h|h
   ·exact(hF b h).2.2 hh
   ·have:=hZ b hh;omega
  ·exact((((kh.fresh k7 λb hb=>by omega).trans k8).fresh k9 λb hb=>hb.elim (λh=>by have:=(hF b h).1;omega) λh=>by omega)).fresh k10 λb hb=>by omega
 ·rintro tr Z h6 hsz hD ⟨⟨u,F,au,hb,hF⟩,hZ,kh,hlen⟩
  refine .inl ⟨rfl,?_⟩
  rw[au.ld (i:=0) rfl,zAa]
  refine zVU λh11 hc=>?_
  obtain⟨ks,rfl,hp⟩:=zAdq hnd hD
  refine⟨⟨ks,hp,?_⟩,zHW kh hc⟩
  have hz1:=hc.1
  exact(BufE.closed hb hc).mono λb hb=>by have:=hF b hb;omega
theorem zXr {H:zAw}{q:Nat}{l:List (List UInt8×List UInt8)}{k:zAn}(hnd:(l.map (·.1)).Nodup)(hl:l.length<=900000)(hm:zZW H q l)
  (hk:∀ (u:Value) (ks:List (List UInt8)) (H':zAw),ks.Perm (l.map (·.1))->BufE 1 (λb=>H.size<=b/\b<H'.size) H' u (zKl ks)->Keep zAM H H'->k u H') :
  zA3 prg zDr [.map (some q)] H λt13 h1=>zA3 prg zHh [t13] h1 λt14 h2=>k t14 h2:=by
 refine zAJ (R:=λu H'=>u = .func (.func zBP) #[] #[Ptr H.size 0]/\At H' H.size [.map (some q)]/\Keep zAM H H') ?_ ?_
 ·apply zFH
  unfold zEi
  have ec:Value.cells (.map (some q))=[Value.map (some q)].toArray:=rfl
  rw[ec,zBa]
  exact⟨rfl,At.push,Keep.push⟩
 rintro _ h1 ⟨rfl,a1,k1⟩
 have g1:=k1.1
 refine zAJ (R:=λu H'=>(∃ ks:List (List UInt8),ks.Perm (l.map (·.1))/\BufE 1 (λb=>h1.size<=b/\b<H'.size) H' u (zKl ks))/\Keep zAM h1 H') ?_ ?_
 ·apply zLC
  unfold zJT
  refine zAJ (R:=λu H'=>(∃ ks:List (List UInt8),ks.Perm (l.map (·.1))/\BufE 1 (λb=>h1.size<=b/\b<H'.size) H' u (zKl ks))/\Keep zAM h1 H') ?_ ?_
  ·apply zLi
   unfold zJh
   exact zAJ (zUc hnd (by omega) a1 (hm.keep k1 id)) λ_ _ h=>h
  rintro u h2 ⟨⟨ks,hp,hb⟩,k2⟩
  have hln:=hp.length_eq
  rw[zAf]at hln
  refine zAJ (zAdp hb (λb hb=>hb.2) (by omega)) ?_
  rintro _ h3 ⟨⟨l',p1,_,hb3⟩,k3⟩
  have g3:=k3.1
  exact⟨⟨l',p1.trans hp,hb3.mono λb hb=>⟨hb.1,by omega⟩⟩,k2.fresh k3 λb hb=>hb.1⟩
 rintro u h2 ⟨⟨ks,hp,hb⟩,k2⟩
 exact hk u ks h2 hp (hb.mono λb hb=>⟨by omega,hb.2⟩) (k1.trans k2)
open Go.MapKept
theorem zAgK {H:zAw}{a p:List UInt8}:zAz prg zFy [str a,str p] H λu H'=>u = .bool (decide (p.length<=a.length)&&decide (a.take p.length=p))/\H=H':=by
 apply zIc
 unfold zIn
 refine zAJ zTZ ?_
 rintro _ _ ⟨rfl,rfl⟩
 exact⟨rfl,rfl⟩
theorem zAki {H:zAw}{a b:List UInt8}(ha:a.length<=1048576)(hb:b.length<=1048576):zAz prg zPo [str a,str b] H λu H'=>u = .bool (zUH a b)/\H=H':=by
 apply zQM
 unfold zRp
 have e:=λq=>zDG (q:=q) (a:=a) (b:=b)
 have s:(Value.string ⟨#[47]⟩)=str [47]:=rfl
 rw[e,zAa,s]
 unfold zUH zOg
 cases h:decide (a=b)
 rotate_left
 ·simp only[zBQ,zAO,zAc,if_false,zAv,if_true,zAa,Bool.true_or]
  exact⟨by trivial,by trivial⟩
 have h':decide (b=a)=false:=by simpa [eq_comm] using h
 rw[h']
 refine zDS rfl ?_
 rw[zTX (by simp;omega),zAa]
 refine zAJ zAgK ?_
 rintro _ _ ⟨rfl,rfl⟩
 rw[zAv,if_neg (by decide),zAa]
 generalize (decide ((b++[47]).length<=a.length)&&decide (a.take (b++[47]).length=b++[47]))=x
 cases x
 rotate_left
 ·refine zLF (by decide) ?_
  show Mpu (zBH (.bool true) (.bool true) undef) _
  rw[zAv,if_pos rfl,zAa]
  exact⟨rfl,rfl⟩
 refine zDS rfl ?_
 rw[zTX (by simp;omega),zAa]
 refine zAJ zAgK ?_
 rintro _ _ ⟨rfl,rfl⟩
 rw[zAv,if_neg (by decide),zAa]
 exact⟨by simp,rfl⟩
def zSq (of:zSS)(m:Man)(f:zHl)(k:List UInt8):Bool:=!decide ((zAbu of k).getD []=m.name)&&zUH f.name k
theorem zAaU {of:zSS}{m:Man}{ks:List (List UInt8)}(hnd:(of.map (·.1)).Nodup)(hp:ks.Perm (of.map (·.1))):zOW of m=m.files.any λf=>ks.any (zSq of m f):=by
 unfold zOW
 congr 1
 funext f
 have e1:ks.any (zSq of m f)=(of.map (·.1)).any (zSq of m f):=by
  rw[zA4,zBM,zBM]
  exact⟨λ⟨x,h,g⟩=>⟨x,hp.mem_iff.1 h,g⟩,λ⟨x,h,g⟩=>⟨x,hp.mem_iff.2 h,g⟩⟩
 rw[e1,List.any_map,zA4,zBM,zBM]
 have e:∀ t∈of,(zSq of m f ∘ λx=>x.1) t=(!decide (t.2=m.name)&&zUH f.name t.1):=λt ht=>by
  show zSq of m f t.1=_
  unfold zSq
  rw[zAgG hnd (v:=t.2) ht];rfl
 exact⟨λ⟨x,h,g⟩=>⟨x,h,by rw[e x h];exact g⟩,λ⟨x,h,g⟩=>⟨x,h,by rw[<- e x h];exact g⟩⟩
theorem zWa {α:Type}{l:List α}{i:Nat}{x:α}{p:α->Bool}(h:l[i]? = some x):(l.take (i+1)).any p=((l.take i).any p || p x):=by
 rw[zAI,h,List.any_append];simp
structure zAfu (P:zA2)(of:zSS)(m:Man)(vd vc vf:Value)(r1 o qo qp r2:Nat)(h:zAw):Prop where
 a1:At h r1 [Ptr o 0]
 ao:At h o [.map (some qo),.map (some qp)]
 mo:zZW h qo of
 a2:At h r2 (zGI m vd vc vf)
 mv:zMf P h m vd vc vf
 lt:∀ b,P b->b<h.size
def zAk3 (P:zA2)(r1 o qo r2 b:Nat):Prop:=b=r1\/b=o\/b=qo\/b=r2\/P b
theorem zAfu.keep {P S:zA2}{of:zSS}{m:Man}{vd vc vf:Value}{r1 o qo qp r2:Nat}{h h':zAw}(p:zAfu P of m vd vc vf r1 o qo qp r2 h)(k:Keep S h h')(hs:∀ b,zAk3 P r1 o qo r2 b->¬ S b):zAfu P of m vd vc vf r1 o qo qp r2 h' :=
 ⟨p.a1.keep k (hs _ (.inl rfl)),p.ao.keep k (hs _ (.inr (.inl rfl))),p.mo.keep k (hs _ (.inr (.inr (.inl rfl)))),p.a2.keep k (hs _ (.inr (.inr (.inr (.inl rfl))))),p.mv.keep k λb hb=>hs _ (.inr (.inr (.inr (.inr hb)))),λb hb=>zAS (p.lt b hb) k.1⟩
theorem zAfu.sr {P:zA2}{of:zSS}{m:Man}{vd vc vf:Value}{r1 o qo qp r2:Nat}{h:zAw}(p:zAfu P of m vd vc vf r1 o qo qp r2 h):∀ b,zAk3 P r1 o qo r2 b->b<h.size:=λb hb=>by
 rcases hb with rfl|rfl|rfl|rfl|hb
 ·exact p.a1.lt
 ·exact p.ao.lt
 ·obtain⟨_,_,h,_⟩:=p.mo;exact lt_of h
 ·exact p.a2.lt
 ·exact p.lt b hb
theorem zAir:zMu prg zL2=some ([(0,1),(1,1),(2,1)],[str [],str [],str []].toArray):=by kernel_rfl
theorem zAaV {P:zA2}{of:zSS}{m:Man}{vd vc vf:Value}{r1 o qo qp r2:Nat}(hnd:(of.map (·.1)).Nodup)(hol:of.length<=900000)(hl:∀ t∈of,t.1.length<=64)(hml:∀ f∈m.files,f.name.length<=64)(hfl:m.files.length<=64) :
  zAiq prg (.func (.func zDC) #[] #[Ptr r1 0,Ptr r2 0]) (λ_ x=>zOW of m=true/\∃ c,x=[c]) (λtr=>tr=[]->zOW of m=false) (λ_=>False) (zAk3 P r1 o qo r2) (zAfu P of m vd vc vf r1 o qo qp r2):=by
 rintro yv h0 J E hst hJ hbody sJ sE
 refine⟨zDC,#[],#[Ptr r1 0,Ptr r2 0],rfl,by kernel_rfl,?_⟩
 show zAz prg zDC [yv,Ptr r1 0,Ptr r2 0] h0 _
 apply zKP
 unfold zIK
 have nck1:∀ b,nck (Ptr b 0)=some (Ptr b 0):=λ_=>rfl
 simp only[zBf,zAg,zAu,zAa]
 rw[hst.a1.ld (i:=0) rfl,zAa,nck1,zAa]
 simp only[zBf,zAg,zAu,zAa]
 rw[hst.ao.ld (i:=0) rfl,zAa]
 refine zXr hnd hol hst.mo λu ks h2 hp hb k2=>?_
 have g2:=k2.1
 have hst2:=hst.keep k2 λ_ _=>id
 have hsr:=hst.sr
 have w:=hst.mv.wf
 have hcl:=zAaU (m:=m) hnd hp
 have hkl:ks.length<=900000:=by rw[hp.length_eq,zAf];exact hol
 have hks:∀ k∈ks,k.length<=64:=λk hk=>by
  obtain⟨t,ht,rfl⟩:=zAo.1 (hp.mem_iff.1 hk)
  exact hl t ht
 have hfu:=hb.sl
 generalize hF:(λb=>h0.size<=b/\b<h2.size)=F at hb hfu
 have hFa:∀ b,F b↔h0.size<=b/\b<h2.size:=λb=>by rw[<- hF]
 have hulen:=hfu.len
 rw[zH6]at hulen
 have hvf:=hst2.mv.f.len
 rw[zAf]at hvf
 rw[(zHm hst2.a2 w).2.2,zAa,hvf,zAa]
 let Io:Nat->zAw->Prop:=λi h=>zAfu P of m vd vc vf r1 o qo qp r2 h/\SlE 1 F h u (zKl ks)/\h2.size<=h.size/\∃ tr,J tr F h/\(tr=[]->((m.files.take i).any λf=>ks.any (zSq of m f))=false)
 refine zKa (λv h=>∃ i:Nat,i<=m.files.length/\v = .int .i64 (i:Nat)/\Io i h) (λv _=>match v with | .int _ t=>m.files.length-t.toNat|_=>0) ⟨0,zAA _,rfl,hst2,hfu,zAh _,[],sJ _ _ _ _ _ hJ (k2.mono λ_ _ h=>h.elim) (λb hb => .inr ((hFa b).1 hb)),λ_=>rfl⟩ ?_
 rintro _ h4 ⟨i,hi,rfl,hs4,hu4,hz4,tr,hJ4,htr⟩ k3 hk3
 rw[zOC,zAa,zAl]
 by_cases hlt:i<m.files.length
 rotate_left
 ·rw[if_neg (by simpa using hlt)]
  obtain rfl:i=m.files.length:=by omega
  rw[zAs (zAh _)]at htr
  exact .inl ⟨tr,F,λe=>by rw[hcl];exact htr e,hJ4⟩
 rw[if_pos (by simpa using hlt)]
 have hg:m.files[i]? = some m.files[i]:=zAj hlt
 have hfm:=zAG hlt
 generalize m.files[i]=f at *
 have hwf:=w.files f hfm
 have hfn:=hml f hfm
 refine zNW (λ_ h=>Io (i+1) h) (λk5 hk5=>?_) ?_
 rotate_left
 ·rintro _ h6 hI6
  rw[zBV (by omega),zAa]
  exact hk3 _ _ ⟨i+1,by omega,rfl,hI6⟩ (by show m.files.length-(i+1)<m.files.length-i;omega)
 obtain⟨b,p,hix,hpt,_⟩:=hs4.mv.f.at (i:=i) (x:=zEg f) (by rw[zAp,hg];rfl)
 rw[hix .i64,zAa,hpt.agg (zDN hwf),zAa]
 simp only[zYx,zBa]
 generalize hH7:h4.push (.cells (zEg ⟨[],List.replicate 32 0,0⟩).toArray zBn (0,0))=h7
 have k7:Keep zAM h4 h7:=by rw[<- hH7];exact Keep.push
 have a7:At h7 h4.size (zEg ⟨[],List.replicate 32 0,0⟩):=by rw[<- hH7];exact At.push
 obtain⟨h8,st8,a8,k8⟩:=a7.st (n:=34) (ds:=zEg f) (zDN zAfk) (zDN hwf) zMQ
 have k48:Keep zAM h4 h8:=k7.fresh k8 λb hb=>by omega
 have g7:=a7.lt
 have g8:=k48.1
 have g78:=k8.1
 rw[st8,zAV,hulen,zAa]
 let Z:zA2:=λb=>F b\/b=h4.size
 have hZs:∀ b,Z b->h0.size<=b/\b<h8.size:=λb hb=>by
  rcases hb with hb|rfl
  ·have:=(hFa b).1 hb;omega
  ·omega
 let Ii:Nat->zAw->Prop:=λj h=>zAfu P of m vd vc vf r1 o qo qp r2 h/\SlE 1 F h u (zKl ks)/\At h h4.size (zEg f)/\h8.size<=h.size/\∃ tr,J tr Z h/\(tr=[]->((m.files.take i).any λf=>ks.any (zSq of m f))=false/\((ks.take j).any (zSq of m f))=false)
 refine zKa (λv h=>∃ j:Nat,j<=ks.length/\v = .int .i64 (j:Nat)/\Ii j h) (λv _=>match v with | .int _ t=>ks.length-t.toNat|_=>0) ⟨0,zAA _,rfl,hs4.keep k48 λ_ _=>id,hu4.keep k48 λ_ _=>id,a8,zAh _,tr,sJ _ _ _ _ _ hJ4 (k48.mono λ_ _ h=>h.elim) (λb hb=>hb.elim .inl λe => .inr (by omega)),λe=>⟨htr e,rfl⟩⟩ ?_
 rintro _ h10 ⟨j,hj,rfl,hs10,hu10,a10,hz10,tr2,hJ10,htr2⟩ k9 hk9
 rw[zOC,zAa,zAl]
 by_cases hltj:j<ks.length
 rotate_left
 ·rw[if_neg (by simpa using hltj)]
  obtain rfl:j=ks.length:=by omega
  rw[zAs (zAh _)]at htr2
  exact hk5 _ _ ⟨hs10,hu10,by omega,tr2,sJ _ _ _ _ _ hJ10 (Keep.refl.mono (S:=λ_=>False) λ_ _ h=>h.elim) (λb hb => .inl (.inl hb)),λe=>by
   rw[zWa hg,(htr2 e).1,(htr2 e).2];rfl⟩
 rw[if_pos (by simpa using hltj)]
 have hgj:ks[j]? = some ks[j]:=zAj hltj
 have hkm:=zAG hltj
 generalize ks[j]=t at *
 have htl:=hks t hkm
 refine zNW (λ_ h=>Ii (j+1) h) (λk11 hk11=>?_) ?_
 rotate_left
 ·rintro _ h12 hI12
  rw[zBV (by omega),zAa]
  exact hk9 _ _ ⟨j+1,by omega,rfl,hI12⟩ (by show ks.length-(j+1)<ks.length-j;omega)
 obtain⟨bt,pt,hixt,hptt,_⟩:=hu10.at (i:=j) (x:=[str t]) (by simpa [zGD] using hgj)
 rw[hixt .i64,zAa,hptt.cell0 rfl,zAa,hs10.a1.ld (i:=0) rfl,zAa,nck1,zAa]
 simp only[zBf,zAg,zAu,zAa]
 have dnm:ld1 h10 (Ptr r2 0)=some (str m.name):=zDd hs10.a2
 have dfn:ld1 h10 (Ptr h4.size 0)=some (str f.name):=a10.ld rfl
 rw[hs10.ao.ld (i:=0) rfl,zAa,dnm,zAa]
 refine zXq hs10.mo hnd ?_
 show Mre [(ld1 h10 (Ptr r2 0),str m.name)] _
 rw[dnm,zBq,zA9]
 show Mpu (zAC .no .eql (str ((zAbu of t).getD [])) (str m.name)) _
 rw[zDG,zAa]
 have hno:zSq of m f t=false->Ii (j+1) h10:=λe=>⟨hs10,hu10,a10,hz10,tr2,hJ10,λe1=>⟨(htr2 e1).1,by rw[zWa hgj,(htr2 e1).2,e];rfl⟩⟩
 cases hm:decide ((zAbu of t).getD []=m.name)
 rotate_left
 ·refine zLF (by decide) ?_
  show Mpu (zBH (.bool true) (.bool true) undef) _
  rw[zAv,if_pos rfl,zAa,zAl,if_pos rfl]
  exact hk11 _ _ (hno (by unfold zSq;rw[hm];rfl))
 refine zDS rfl ?_
 rw[dfn,zAa]
 refine zAJ (zAki (by omega) (by omega)) ?_
 rintro _ _ ⟨rfl,rfl⟩
 rw[zA8,zAa]
 show Mpu (zBH (.bool false) (.bool true) (.bool (!zUH f.name t))) _
 rw[zAv,if_neg (by decide),zAa,zAl]
 cases hmt:zUH f.name t
 ·rw[if_pos (by rfl)]
  exact hk11 _ _ (hno (by unfold zSq;rw[hmt,zB8]))
 rw[if_neg (by decide)]
 simp only[dfn,dnm,zAa]
 rw[hs10.a1.ld (i:=0) rfl,zAa,nck1,zAa]
 simp only[zBf,zAg,zAu,zAa]
 rw[hs10.ao.ld (i:=0) rfl,zAa]
 refine zXq hs10.mo hnd ?_
 show Mre [(ld1 h10 (Ptr r2 0),str m.name),(ld1 h10 (Ptr h4.size 0),str f.name)] _
 rw[dnm,dfn,zBq,zBq,zA9]
 show Mpu (zCV prg zL2 [(0,str f.name),(1,str m.name),(2,str ((zAbu of t).getD []))]) _
 have hbd:zCV prg zL2 [(0,str f.name),(1,str m.name),(2,str ((zAbu of t).getD []))]=some (.agg #[str f.name,str m.name,str ((zAbu of t).getD [])]):=by rw[zIv zAir];rfl
 rw[hbd,zAa]
 have hcT:zOW of m=true:=by
  rw[hcl]
  exact zBM.2 ⟨f,hfm,zBM.2 ⟨t,hkm,by unfold zSq;rw[hm,hmt];rfl⟩⟩
 refine(hbody _ _ _ h10 ⟨hcT,_,rfl⟩ hJ10).mono ?_
 rintro v h18 ⟨hsz,hS,hv⟩
 have k18:Keep (λb=>¬ (zAk3 P r1 o qo r2 b\/Z b)) h10 h18:=⟨hsz,λb hb hn=>hS b (Classical.not_not.1 hn) hb⟩
 rcases hv with ⟨rfl,hJ18⟩|⟨rfl,hE⟩
 ·rw[zA8,zAa,zAl,if_neg (by decide)]
  refine hk11 _ _ ⟨hs10.keep k18 λb hb h=>h (.inl hb),hu10.keep k18 λb hb h=>h (.inr (.inl hb)),a10.keep k18 λh=>h (.inr (.inr rfl)),by omega,_,hJ18,λe=>?_⟩
  simp at e
 ·rw[zA8,zAa,zAl,if_pos (by rfl)]
  exact .inr hE
theorem zAdr {l:List (List UInt8)}(h:zRw l=true):l.Pairwise λa b=>less a b=true:=by
 obtain⟨_,tr,_⟩:=zV9
 rw[zBG]
 intro i j hi hj hij
 induction j with
 | zero=>omega
 | succ j ih =>
  have hs:less (l[j]'(by omega)) l[j+1]=true:=by
   have h1:=zAy.1 h (j+1) (by simpa using hj)
   unfold zOU at h1
   have e1:l.getD j []=l[j]'(by omega):=by simp[List.getD,show j<l.length by omega]
   have e2:l.getD (j+1) []=l[j+1]:=by simp[List.getD,hj]
   rw[decide_eq_false (by omega),Bool.false_or,Nat.add_sub_cancel,e1,e2]at h1
   exact h1
  by_cases e:i=j
  ·subst e;exact hs
  ·exact tr _ _ _ (ih (by omega) (by omega)) hs
theorem zAis {l:List (List UInt8)}(h:zRw l=true):l.Nodup:=by
 obtain⟨ir,_,_⟩:=zV9
 exact zB0.2 ((zAdr h).imp λ{a b} h e=>by subst e;rw[ir]at h;cases h)
theorem zMT {m:Man}(h:zFO m=true):m.files.length<=64/\(m.files.map (·.name)).Nodup/\∀ f∈m.files,f.name.length<=64:=by
 unfold zFO zPL at h
 simp only[zAk,decide_eq_true_eq]at h
 obtain⟨_,⟨h1,h2⟩,h3⟩:=h
 refine⟨h1,zAis h2,λf hf=>?_⟩
 obtain⟨i,hi,rfl⟩:=zBx hf
 have:=zAy.1 h3 i (zBZ.2 hi)
 unfold zJY at this
 rw[zUa (zAj hi)]at this
 simp only[zAk]at this
 exact zAgA this.1.1.1.1
structure zXs (ps:List (List UInt8))(of:zSS):Prop extends OwnI ps of where
 len:∀ t∈of,t.1.length<=64
theorem zXs.nil:zXs [] []:=⟨⟨List.nodup_nil,λt h=>by cases h⟩,λt h=>by cases h⟩
theorem zXs.next {ps:List (List UInt8)}{of:zSS}{m:Man}(hI:zXs ps of)(h:zHx ps of m=0):zXs (ps++[m.name]) (zAd8 of m):=by
 obtain⟨h1,h2,h3⟩:=zZX h
 obtain⟨f1,f2,f3⟩:=zMT h1
 have hn:=zAdm hI.toOwnI h2 h3
 refine⟨⟨?_,λt ht=>?_⟩,λt ht=>?_⟩
 ·unfold zAd8
  rw[zAE,List.map_map,zCA]
  refine⟨hI.nd,f2,λa ha b hb e=>?_⟩
  obtain⟨f,hf,rfl⟩:=zAo.1 hb
  exact hn f hf (by rw[show f.name=a from e.symm];exact ha)
 ·rcases zAt.1 ht with ht|ht
  ·exact List.mem_append_left _ (hI.mem t ht)
  ·obtain⟨f,hf,rfl⟩:=zAo.1 ht
   simp
 ·rcases zAt.1 ht with ht|ht
  ·exact hI.len t ht
  ·obtain⟨f,hf,rfl⟩:=zAo.1 ht
   exact f3 f hf
theorem zAkj:zAkZ prg zDK .string (.bool false):=⟨zBd,zWN,by kernel_rfl,by kernel_rfl,λw=>by rfl⟩
def zXR (h:zAw)(q:Nat)(l:List (List UInt8)):Prop:=zOf h q (l.map λe=>(str e,.bool true))
theorem zXR.keep {H H':zAw}{q:Nat}{l:List (List UInt8)}{S:zA2}(h:zXR H q l)(k:Keep S H H')(hs:¬ S q):zXR H' q l:=zOf.keep h k hs
theorem zZY {l:List (List UInt8)}:∀ x∈l.map (λe=>(str e,Value.bool true)),IsKey .string x.1:=λx hx=>by
 obtain⟨e,_,rfl⟩:=zAo.1 hx
 exact trivial
theorem zAds {H:zAw}{q:Nat}{l:List (List UInt8)}{n:List UInt8}{k:zAn}(h:zXR H q l)(hk:k (.bool (decide (n∈l))) H):zPd prg (Instr.lookup zDK (.map (some q)) (str n) false) H k:=by
 refine zZP zAkj h zZY trivial (λv hv=>?_) λhno=>?_
 ·obtain⟨e,he,hev⟩:=zAo.1 hv
  injection hev with h1 h2
  obtain rfl:=zSp h1
  rw[decide_eq_true he]at hk
  rw[<- h2];exact hk
 ·rw[decide_eq_false λhm=>hno _ (zAo.2 ⟨n,hm,rfl⟩) rfl]at hk
  exact hk
theorem zAdt {H:zAw}{q:Nat}{l:List (List UInt8)}{n:List UInt8}{k:zAn}(h:zXR H q l)(hno:n∉l)(hk:∀ H',zXR H' q (l++[n])->Keep (· = q) H H'->k undef H'):Msu prg (Instr.mapUpdate zDK (.map (some q)) (str n) (.bool true)) H k:=by
 refine zZQ zAkj h zZY trivial (λj w H' hj hm kk=>?_) λH' _ hm kk=>?_
 ·obtain⟨e,he,hev⟩:=zAo.1 (zAB hj)
  injection hev with h1 h2
  exact absurd (zSp h1 ▸ he) hno
 ·refine hk H' ?_ kk
  show zOf H' q _
  rw[zAE];exact hm
structure zPM (ps:List (List UInt8))(of:zSS)(o qo qp:Nat)(h:zAw):Prop where
 ao:At h o [.map (some qo),.map (some qp)]
 mo:zZW h qo of
 mp:zXR h qp ps
 ne:qo≠qp
theorem zZW.lt {h:zAw}{q:Nat}{l:zSS}(m:zZW h q l):q<h.size:=by obtain⟨_,_,h,_⟩:=m;exact lt_of h
theorem zXR.lt {h:zAw}{q:Nat}{l:List (List UInt8)}(m:zXR h q l):q<h.size:=by obtain⟨_,_,h,_⟩:=m;exact lt_of h
theorem zPM.keep {ps:List (List UInt8)}{of:zSS}{o qo qp:Nat}{h h':zAw}{S:zA2}(p:zPM ps of o qo qp h)(k:Keep S h h')(hs:∀ b,b=o\/b=qo\/b=qp->¬ S b):zPM ps of o qo qp h' :=
 ⟨p.ao.keep k (hs _ (.inl rfl)),p.mo.keep k (hs _ (.inr (.inl rfl))),p.mp.keep k (hs _ (.inr (.inr rfl))),p.ne⟩
theorem zPM.nes {ps:List (List UInt8)}{of:zSS}{o qo qp:Nat}{h:zAw}(p:zPM ps of o qo qp h):o≠qo/\o≠qp:=by
 obtain⟨T,a⟩:=p.ao
 obtain⟨_,_,h1,_⟩:=p.mo
 obtain⟨_,_,h2,_⟩:=p.mp
 refine⟨λe=>?_,λe=>?_⟩
 ·subst e;rw[a]at h1;cases h1
 ·subst e;rw[a]at h2;cases h2
theorem zAlO {ps:List (List UInt8)}{of:zSS}{o qo qp:Nat}{H:zAw}{n:List UInt8}(p:zPM ps of o qo qp H):zAz prg zJC [Ptr o 0,str n] H λu H'=>u = .bool (decide (n∈ps))/\H=H':=by
 apply zNG
 unfold zML
 have nck1:∀ b,nck (Ptr b 0)=some (Ptr b 0):=λ_=>rfl
 rw[nck1,zAa,zBf,zAa,zAg,p.ao.ld (i:=1) rfl,zAa]
 exact zAds p.mp ⟨rfl,rfl⟩
theorem zAfv:zBE prg zHM=some [Value.int .i64 0].toArray:=by kernel_rfl
theorem zAfw {P:zA2}{ps:List (List UInt8)}{of:zSS}{o qo qp:Nat}{H:zAw}{m:Man}{vd vc vf:Value}(p:zPM ps of o qo qp H)(hI:zXs ps of)(hol:of.length<=900000)(hv:zMf P H m vd vc vf)(hP:∀ b,P b->b<H.size/\b≠qo/\b≠qp)
  (hd:m.deps.length<=1099511627776) (hc:m.conf.length<=1099511627776) (hO:zQR H) :
  zAz prg zJz [Ptr o 0,.agg (zGI m vd vc vf).toArray] H λu H'=>u = .int .i64 (zHx ps of m)/\(zHx ps of m=0->zPM (ps++[m.name]) (zAd8 of m) o qo qp H')/\Keep (λb=>b=qo\/b=qp) H H':=by
 apply zNF
 unfold zMI
 simp only[zB1,zBa,zAfv]
 generalize hH1:H.push (.cells (zGI m vd vc vf).toArray zAi (0,0))=H1
 have k1:Keep zAM H H1:=by rw[<- hH1];exact Keep.push
 have a1:At H1 H.size (zGI m vd vc vf):=by rw[<- hH1];exact At.push
 have s1:H1.size=H.size+1:=by rw[<- hH1];simp
 generalize hH2:H1.push (.cells [Value.int .i64 0].toArray zHM (0,0))=H2
 have k2:Keep zAM H1 H2:=by rw[<- hH2];exact Keep.push
 have a2:At H2 H1.size [.int .i64 0]:=by rw[<- hH2];exact At.push
 have s2:H2.size=H1.size+1:=by rw[<- hH2];simp
 have k02:=k1.trans k2
 have a1':=a1.keep k2 id
 have w:=hv.wf
 have hp0:=p.nes
 have l0:=p.ao.lt
 have lo:=p.mo.lt
 have lp:=p.mp.lt
 have fin:∀ (n:Int) (h:zAw),At h H1.size [.int .i64 0]\/At h H1.size [.int .i64 41]->Keep (λb=>b=qo\/b=qp) H h->n=zHx ps of m->(zHx ps of m=0->zPM (ps++[m.name]) (zAd8 of m) o qo qp h) ->
   Mwr (st1 h (Ptr H1.size 0) (.int .i64 n)) λh8=>Mcl H.size h8 λh9=>Mpu (ld1 h9 (Ptr H1.size 0)) λr10=>r10 = .int .i64 (zHx ps of m)/\(zHx ps of m=0->zPM (ps++[m.name]) (zAd8 of m) o qo qp h9)/\Keep (λb=>b=qo\/b=qp) H h9:=λn h a k e hw=>by
  obtain⟨h4,st4,a4,k4⟩:∃ h4,st1 h (Ptr H1.size 0) (.int .i64 n)=some h4/\At h4 H1.size [.int .i64 n]/\Keep (· = H1.size) h h4:=by
   rcases a with a|a
   ·obtain⟨h4,st4,a4,k4⟩:=a.st1 (i:=0) (v := .int .i64 n) (by simp) rfl
    exact⟨h4,st4,a4,k4⟩
   ·obtain⟨h4,st4,a4,k4⟩:=a.st1 (i:=0) (v := .int .i64 n) (by simp) rfl
    exact⟨h4,st4,a4,k4⟩
  rw[st4,zAV]
  refine zVU λh5 hcl=>?_
  rw[(a4.closed hcl).ld (i:=0) rfl,zAa]
  have kc:Keep (λb=>b=qo\/b=qp) H h5:=⟨by rw[hcl.1];have:=k.1;have:=k4.1;omega,λi hi hn=>by rw[hcl.2.1 i hi,k4.2 i (by have:=k.1;omega) (by omega),k.2 i hi hn]⟩
  refine⟨by rw[e],λe0=>?_,kc⟩
  have q:=(hw e0).keep k4 λb hb h=>by rcases hb with hb|hb|hb<;>omega
  obtain⟨q1,q2,q3,q4⟩:=q
  refine⟨q1.closed hcl,?_,?_,q4⟩
  ·obtain⟨ar,c,h1,h2⟩:=q2
   exact⟨ar,c,hcl.2.2 _ _ h1 (λds e=>by cases e),h2⟩
  ·obtain⟨ar,c,h1,h2⟩:=q3
   exact⟨ar,c,hcl.2.2 _ _ h1 (λds e=>by cases e),h2⟩
 rw[zT3 a1' w,zAa]
 refine zAJ (zTe (hv.keep k02 λ_ _=>id) hd hc (hO.keep k02 λ_ h=>h.elim)) ?_
 rintro _ h3 ⟨rfl,k3⟩
 have k03:=k02.trans k3
 have a13:=a1'.keep k3 id
 have a23:=a2.keep k3 id
 have g3:=k3.1
 rw[zA8,zAa,zAl]
 cases hok:zFO m
 ·rw[if_pos (by rfl)]
  have e:zHx ps of m=10:=by unfold zHx;rw[hok];rfl
  exact fin 10 h3 (.inl a23) (k03.mono λ_ _ h=>h.elim) e.symm λh=>by rw[e]at h;cases h
 rw[if_neg (by decide),zBf,zAa,zAg,zDd a13,zAa]
 refine zAJ (zAlO (p.keep k03 λ_ _=>id)) ?_
 rintro _ _ ⟨rfl,rfl⟩
 rw[zAl]
 by_cases hin:m.name∈ps
 ·rw[if_pos (by simpa using hin)]
  have e:zHx ps of m=44:=by unfold zHx;rw[hok,if_pos hin];rfl
  exact fin 44 h3 (.inl a23) (k03.mono λ_ _ h=>h.elim) e.symm λh=>by rw[e]at h;cases h
 rw[if_neg (by simpa using hin),zT3 a13 w,zAa]
 obtain⟨f1,f2,f3⟩:=zMT hok
 refine zAJ (R:=λu H'=>u = .func (.func zDC) #[] #[Ptr h3.size 0,Ptr (h3.size+1) 0]/\At H' h3.size [Ptr o 0]/\At H' (h3.size+1) (zGI m vd vc vf)/\H'.size=h3.size+2/\Keep zAM h3 H') ?_ ?_
 ·apply zLB
  unfold zJS
  have ec:Value.cells (Ptr o 0)=[Ptr o 0].toArray:=rfl
  simp only[ec,zB1,zBa]
  have e1:(h3.push (.cells [Ptr o 0].toArray zIP (0,0))).size=h3.size+1:=by simp
  have e2:At ((h3.push (.cells [Ptr o 0].toArray zIP (0,0))).push (.cells (zGI m vd vc vf).toArray zAi (0,0))) (h3.push (.cells [Ptr o 0].toArray zIP (0,0))).size (zGI m vd vc vf):=At.push
  rw[e1]at e2
  exact⟨by rw[e1],At.push.keep (S:=λ_=>False) Keep.push id,e2,by simp,Keep.push.trans Keep.push⟩
 rintro _ h11 ⟨rfl,ar1,ar2,s11,k11⟩
 have k011:=k03.trans k11
 have g03:=k03.1
 have a111:=a13.keep k11 id
 have a211:=a23.keep k11 id
 let St:=zAfu P of m vd vc vf h3.size o qo qp (h3.size+1)
 have st11:St h11:=⟨ar1,p.ao.keep k011 id,p.mo.keep k011 id,ar2,hv.keep k011 λ_ _=>id,λb hb=>by have:=(hP b hb).1;omega⟩
 have p11:zPM ps of o qo qp h11:=p.keep k011 λ_ _=>id
 have sf:∀ {S:zA2} {h h':zAw},Keep S h h'->(∀ b,S b->h11.size<=b)->∀ b,b<h11.size->¬ S b:=λ_ hs b hb h=>by have:=hs b h;omega
 refine zAdn (n0:=H.size) (zAaV (P:=P) (of:=of) (m:=m) (vd:=vd) (vc:=vc) (vf:=vf) (qp:=qp) hI.nd hol hI.len f3 f1) (λx x'=>st11.keep (Keep.push.trans Keep.push:Keep zAM h11 _) λ_ _=>id) (by omega)
  (λtr Z h=>tr=[]/\Keep zAM h11 h/\∀ b,Z b->h11.size<=b) (λc h=>c = .ret/\zOW of m=true/\At h H1.size [.int .i64 41]/\Keep zAM H h) ⟨rfl,Keep.refl,λ_ h=>h.elim⟩
  (λtr Z Z' h h' ⟨e,kh,hz⟩ hs k hz'=>⟨e,kh.fresh k λb hb=>?_,λb hb=>(hz' b hb).elim (hz b) λh=>by omega⟩)
  (λc h h' ⟨e,e1,a,kh⟩ hs k=>⟨e,e1,a.keep k λhb=>?_,kh.fresh k λb hb=>?_⟩) (λ_ h=>h.elim) (λb hb=>st11.sr b hb) ?_ ?_ ?_
 ·rcases hb with hb|hb|rfl|rfl
  ·exact hb.elim
  ·exact hz b hb
  ·omega
  ·omega
 ·rcases hb with hb|hb|hb
  ·exact hb
  ·omega
  ·omega
 ·rcases hb with hb|rfl|rfl
  ·exact hb.elim
  ·omega
  ·omega
 ·rintro tr x Z h r hsz ⟨hcl,c,rfl⟩ hZ ⟨rfl,kh,_⟩ hl hrd K hN hE
  refine⟨rfl,r,hl,hrd,?_⟩
  generalize hhb:h.setIfInBounds (h11.size+1) (.loop { r with state := .busy })=hb at *
  have kb:Keep (· = h11.size+1) h hb:=by rw[<- hhb];exact Keep.set rfl
  have k11b:Keep zAM h11 hb:=kh.fresh kb λb hb=>by omega
  obtain⟨h18,st18,a18,k18⟩:=(a211.keep k11b id).st1 (i:=0) (v := .int .i64 41) (by simp) rfl
  rw[st18,zAV]
  refine hE _ _ (k18.mono λb _ e hh=>?_) ⟨rfl,hcl,a18,(k011.trans k11b).fresh k18 λb hb=>by omega⟩
  subst e
  rcases hh with hh|hh|hh|hh
  ·rcases hh with hh|hh|hh|hh|hh
   ·omega
   ·omega
   ·omega
   ·omega
   ·have:=(hP _ hh).1;omega
  ·have:=hZ _ hh;omega
  ·omega
  ·omega
 ·rintro tr Z h hsz hD ⟨rfl,kh,_⟩
  refine .inl ⟨rfl,?_⟩
  have hcf:zOW of m=false:=hD rfl
  have e:zHx ps of m=0:=by unfold zHx;rw[hok,if_neg hin,hcf];rfl
  have hnew:=zAdm hI.toOwnI hin hcf
  have p16:=p11.keep kh λ_ _=>id
  have a116:=a111.keep kh id
  have k016:=k011.trans kh
  have g16:=k016.1
  have nck1:∀ b,nck (Ptr b 0)=some (Ptr b 0):=λ_=>rfl
  simp only[nck1,zBf,zAg,zAu,zAa]
  rw[p16.ao.ld (i:=1) rfl,zAa,zDd a116,zAa]
  refine zAdt p16.mp hin λh19 mp19 k19=>?_
  have p19:zPM (ps++[m.name]) of o qo qp h19:=⟨p16.ao.keep k19 hp0.2,p16.mo.keep k19 p.ne,mp19,p.ne⟩
  have a119:=a116.keep k19 (by omega)
  have a219:=(a211.keep kh id).keep k19 (by omega)
  have hv19:zMf P h19 m vd vc vf:=(hv.keep k016 λ_ _=>id).keep k19 λb hb e=>(hP b hb).2.2 e
  have k019:Keep (λb=>b=qo\/b=qp) H h19:=(k016.mono λ_ _ h=>h.elim).trans (k19.mono λ_ _ h => .inr h)
  have g19:=k19.1
  refine zNW (λ_ h=>zPM (ps++[m.name]) (zAd8 of m) o qo qp h/\At h H1.size [.int .i64 0]/\Keep (λb=>b=qo\/b=qp) H h) (λk20 hk20=>?_) ?_
  rotate_left
  ·rintro _ h21 ⟨q1,q2,q3⟩
   exact fin 0 h21 (.inl q2) q3 e.symm λ_=>q1
  have hlf:=hv19.f.len
  rw[zAf]at hlf
  rw[(zHm a119 w).2.2,zAa,hlf,zAa]
  let ofi:Nat->zSS:=λi=>of++(m.files.take i).map λf=>(f.name,m.name)
  refine zKa (λv h=>∃ i:Nat,i<=m.files.length/\v = .int .i64 (i:Nat)/\zPM (ps++[m.name]) (ofi i) o qo qp h/\Keep (· = qo) h19 h) (λv _=>match v with | .int _ t=>m.files.length-t.toNat|_=>0) ⟨0,zAA _,rfl,by show zPM _ (of++[]) _ _ _ _;rw[zAN];exact p19,Keep.refl⟩ ?_
  rintro _ h23 ⟨i,hi,rfl,p23,k23⟩ k22 hk22
  have g23:=k23.1
  rw[zOC,zAa,zAl]
  by_cases hlt:i<m.files.length
  rotate_left
  ·rw[if_neg (by simpa using hlt)]
   obtain rfl:i=m.files.length:=by omega
   have e1:ofi m.files.length=zAd8 of m:=by show of++_=_;rw[zAs (zAh _)];rfl
   rw[e1]at p23
   exact hk20 _ _ ⟨p23,a219.keep k23 (by omega),k019.trans (k23.mono λ_ _ h => .inl h)⟩
  rw[if_pos (by simpa using hlt)]
  have hg:m.files[i]? = some m.files[i]:=zAj hlt
  have hfm:=zAG hlt
  have hfni:∀ t∈ofi i,t.1≠m.files[i].name:=λt ht et=>by
   rcases zAt.1 ht with ht|ht
   ·exact hnew _ hfm (by rw[<- et];exact zAo.2 ⟨t,ht,rfl⟩)
   ·obtain⟨f,hf,rfl⟩:=zAo.1 ht
    obtain⟨j,hj,rfl⟩:=zBx hf
    rw[zAZ]at hj
    have hp:=zBG.1 (zBA.1 (zB0.1 f2)) j i (by omega) hlt (by omega)
    rw[List.getElem_take]at et
    exact hp et
  generalize m.files[i]=f at *
  have hwf:=w.files f hfm
  obtain⟨b,o',hix,hpt,_⟩:=(hv19.keep k23 λb hb e=>(hP b hb).2.1 e).f.at (i:=i) (x:=zEg f) (by rw[zAp,hg];rfl)
  rw[hix .i64,zAa,hpt.agg (zDN hwf),zAa]
  simp only[zYx,zBa]
  generalize hH24:h23.push (.cells (zEg ⟨[],List.replicate 32 0,0⟩).toArray zBn (0,0))=h24
  have k24:Keep zAM h23 h24:=by rw[<- hH24];exact Keep.push
  have a24:At h24 h23.size (zEg ⟨[],List.replicate 32 0,0⟩):=by rw[<- hH24];exact At.push
  obtain⟨h25,st25,a25,k25⟩:=a24.st (n:=34) (ds:=zEg f) (zDN zAfk) (zDN hwf) zMQ
  have k2325:Keep zAM h23 h25:=k24.fresh k25 λb hb=>by omega
  have p25:=p23.keep k2325 λ_ _=>id
  have a125:=(a119.keep k23 (by omega)).keep k2325 id
  simp only[zBf,zAg,zAu,zAa]
  rw[st25,zAV,p25.ao.ld (i:=0) rfl,zAa,a25.ld (i:=0) (v:=str f.name) rfl,zAa,zDd a125,zAa]
  refine zAfs p25.mo hfni λh26 mo26 k26=>?_
  rw[zBV (by omega),zAa]
  have e2:ofi (i+1)=ofi i++[(f.name,m.name)]:=by
   show of++_=(of++_)++_
   rw[zAI,hg];simp
  refine hk22 _ _ ⟨i+1,by omega,rfl,⟨p25.ao.keep k26 hp0.1,by rw[e2];exact mo26,p25.mp.keep k26 λe=>p.ne e.symm,p.ne⟩,(k23.trans (k2325.mono λ_ _ h=>h.elim)).trans k26⟩ (by show m.files.length-(i+1)<m.files.length-i;omega)
 ·rintro c h hsz ⟨rfl,hcl,a,kh⟩
  refine .inr ⟨rfl,?_⟩
  have e:zHx ps of m=41:=by unfold zHx;rw[hok,if_neg hin,hcl];rfl
  refine zVU λh30 hcl'=>?_
  rw[(a.closed hcl').ld (i:=0) rfl,zAa]
  exact⟨by rw[e],λh=>absurd (e.symm.trans h) (by decide),(zHW kh hcl').mono λ_ _ h=>h.elim⟩
end Go.Proofs.YticdfkoncnnmmaaGreatDoor
