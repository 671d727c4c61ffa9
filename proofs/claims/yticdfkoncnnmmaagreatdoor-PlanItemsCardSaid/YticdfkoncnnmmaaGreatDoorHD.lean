import Derived.Test.YticdfkoncnnmmaaGreatDoorHC
import Derived.Test.YticdfkoncnnmmaaGreatDoorH7
set_option linter.unusedSimpArgs false
set_option linter.unusedVariables false
set_option maxRecDepth 100000
namespace Go.Proofs.YticdfkoncnnmmaaGreatDoor
open Go.X Go.X.Diff Go.MapKept
open Go.Sort (swp PermIn SortedIn Below SWO)
instance:Inhabited MV:=⟨(⟨[],zB2,[],[],[]⟩,zAY,zAY,zAY)⟩
def zVw (x y:MV):Bool:=decide (zK6 x.1.name y.1.name<0)
theorem zAeC:SWO zVw:=zZC zEL fun x:MV=>x.1.name
def zS8 (l:List MV):Prop:=l.Pairwise fun x y=>zK6 x.1.name y.1.name<0
theorem zAbW {l l':List MV}(hr:zS8 l)(hp:l'.Perm l)(hs:l'.Pairwise (fun x y=>zVw y x=false)):l'=l:=by
 have hs2:l.Pairwise (fun x y=>zVw y x=false):=hr.imp fun {a b} h=>by
  unfold zVw
  have:=zEL.turn a.1.name b.1.name
  rw[decide_eq_false];omega
 refine zPy (fun a ha b hb h1 h2=>?_) hp hs hs2
 have ha':=hp.mem_iff.1 ha
 have hb':=hp.mem_iff.1 hb
 obtain⟨i,hi,rfl⟩:=List.getElem_of_mem ha'
 obtain⟨j,hj,rfl⟩:=List.getElem_of_mem hb'
 have hq:=List.pairwise_iff_getElem.1 hr
 unfold zVw at h1 h2
 rcases Nat.lt_trichotomy i j with h | h | h
 ·have:=hq i j hi hj h
  simp[this]at h1
 ·subst h;rfl
 ·have:=hq j i hj hi h
  simp[this]at h2
theorem zZ9 {F:Nat->Prop}{H:zAd}{v:Value}{l:List MV}(hv:BufE 8 F H v (l.map mvC))(hr:zS8 l)(hF:∀ b,F b->b<H.size)(hl:l.length<=900000) :
  zAg prg zA3 [v,.func (.func zDb) #[] #[]] H fun _ H'=>BufE 8 F H' v (l.map mvC)/\Keep F H H':=by
 apply zCo
 unfold zBr
 have hlen:=hv.sl.len
 rw[List.length_map]at hlen
 let fv:Value := .func (.func zDb) #[] #[]
 have hcE:zAht (Ev8 mvC) fv zVw (fun _=>True):=fun x y h _=>by
  refine zWF (x:=x) (y:=y) fun h' k=>⟨⟨_,rfl,rfl⟩,k⟩
 have ok:zGx (zIU fv) mvC (Ev8 mvC) zVw (fun _=>True) F v:=⟨fun hr _ hi=>zS2 hr hi,fun hr _ _ hi hj=>zZu hr hi hj,fun hg hk=>zAcJ hcE hg hk⟩
 rw[hlen,zAa,zZD (by omega),zAa]
 refine zAk (zAcQ (by omega)) ?_
 rintro _ _ ⟨⟨m,rfl,hm⟩,rfl⟩
 refine zAk (zVs (zMu fv) ok zAeC (l:=l) (m:=m) hv (fun _ _=>trivial) hF hl hm) ?_
 rintro _ H' ⟨⟨l',h1,h2,h3⟩,k⟩
 rw[zAbW hr h1 h2]at h3
 exact⟨h3,k⟩
def Own (n0:Nat)(col:Nat->Nat)(k:Nat)(h:zAd)(b:Nat):Prop:=col b=k/\n0<=b/\b<h.size
def zG6 (col:Nat->Nat)(h:zAd)(k:Nat)(b:Nat):Nat:=if b<h.size then col b else k
theorem Own.ext {n0:Nat}{col:Nat->Nat}{k j:Nat}{h h':zAd}{b:Nat}(o:Own n0 col k h b)(hs:h.size<=h'.size):Own n0 (zG6 col h j) k h' b :=
 ⟨by unfold zG6;rw[if_pos o.2.2];exact o.1,o.2.1,Nat.lt_of_lt_of_le o.2.2 hs⟩
theorem Own.new {n0:Nat}{col:Nat->Nat}{k:Nat}{h h':zAd}{b:Nat}(hn:n0<=h.size)(h1:h.size<=b)(h2:b<h'.size):Own n0 (zG6 col h k) k h' b :=
 ⟨by unfold zG6;rw[if_neg (by omega)],by omega,h2⟩
theorem zAeD {n n0 sz k:Nat}{T:TypeId}{P:Nat->Prop}{col:Nat->Nat}{h:zAd}{v x:Value}{xs ys:List (List Value)}{K:Value->zAd->Prop}(b:BufE n (Own n0 col k h) h v xs)(hx:SlE n P h x ys)(h0:0<sz)(hlen:(xs.length+ys.length) * sz<=140737488355328)(hn:n0<=h.size)
  (hk:∀ v' h',BufE n (Own n0 (zG6 col h k) k h') h' v' (xs++ys)->Keep (fun b=>Own n0 col k h b\/h.size<=b) h h'->K v' h'):zIV T n sz h v x K:=by
 refine(b.mono (G:=fun b=>Own n0 col k h b\/h.size<=b) fun _ hb => .inl hb).app hx h0 hlen (.inr (Nat.le_refl _)) fun v' h' b' k'=>hk v' h' (BufE.re b' fun b hl hb=>?_) k'
 rcases hb with hb | hb
 ·exact hb.ext k'.1
 ·exact Own.new hn hb hl
def chC (kind:Int)(d s t:Value):List Value:=[.int .i64 kind,d,s,t]
structure ChI (n0 z:Nat)(kind:Int)(col:Nat->Nat)(d s t:Value)(dr:List MV)(ad:List PW)(af:List MV)(h:zAd):Prop where
 a:At h z (chC kind d s t)
 bd:BufE 8 (Own n0 col 1 h) h d (dr.map mvC)
 bs:BufE 9 (Own n0 col 2 h) h s (ad.map pvC)
 bt:BufE 8 (Own n0 col 3 h) h t (af.map mvC)
 md:∀ x ∈ dr,zJJ (Own n0 col 4 h) h x.1 x.2.1 x.2.2.1 x.2.2.2
 ms:∀ x ∈ ad,PkV (Own n0 col 4 h) h x
 mt:∀ x ∈ af,zJJ (Own n0 col 4 h) h x.1 x.2.1 x.2.2.1 x.2.2.2
 n:n0<=h.size
 zl:z<n0
section
variable {n0 z:Nat} {kind:Int} {col:Nat->Nat} {d s t:Value} {dr:List MV} {ad:List PW} {af:List MV} {h h':zAd}
theorem ChI.fresh (c:ChI n0 z kind col d s t dr ad af h)(k:Keep (fun _=>False) h h'):ChI n0 z kind (zG6 col h 4) d s t dr ad af h' :=
 ⟨c.a.keep k id,(c.bd.keep k fun _ _=>id).mono fun _ o=>o.ext k.1,(c.bs.keep k fun _ _=>id).mono fun _ o=>o.ext k.1,(c.bt.keep k fun _ _=>id).mono fun _ o=>o.ext k.1,fun x hx=>((c.md x hx).keep k fun _ _=>id).mono fun _ o=>o.ext k.1,fun x hx=>((c.ms x hx).keep k fun _ _=>id).mono fun _ o=>o.ext k.1,fun x hx=>((c.mt x hx).keep k fun _ _=>id).mono fun _ o=>o.ext k.1,Nat.le_trans c.n k.1,c.zl⟩
theorem ChI.low {S:Nat->Prop}(c:ChI n0 z kind col d s t dr ad af h)(k:Keep S h h')(hS:∀ b,S b->(b<n0/\b≠z)\/h.size<=b):ChI n0 z kind (zG6 col h 4) d s t dr ad af h':=by
 have ho:∀ j b,Own n0 col j h b->¬ S b:=fun j b o hs=>by
  rcases hS b hs with h1 | h1
  ·have:=o.2.1;omega
  ·have:=o.2.2;omega
 have hz:¬ S z:=fun hs=>by
  rcases hS z hs with h1 | h1
  ·exact h1.2 rfl
  ·have:=c.n;have:=c.zl;omega
 exact⟨c.a.keep k hz,(c.bd.keep k (ho 1)).mono fun _ o=>o.ext k.1,(c.bs.keep k (ho 2)).mono fun _ o=>o.ext k.1,(c.bt.keep k (ho 3)).mono fun _ o=>o.ext k.1,fun x hx=>((c.md x hx).keep k (ho 4)).mono fun _ o=>o.ext k.1,fun x hx=>((c.ms x hx).keep k (ho 4)).mono fun _ o=>o.ext k.1,fun x hx=>((c.mt x hx).keep k (ho 4)).mono fun _ o=>o.ext k.1,Nat.le_trans c.n k.1,c.zl⟩
theorem ChI.coarse (c:ChI n0 z kind col d s t dr ad af h){j:Nat}(k:Keep (fun b=>(Own n0 col j h b\/h.size<=b)\/b=z) h h'):Keep (fun b=>n0<=b\/b=z) h h' :=
 k.mono fun b _ hb=>hb.imp (fun hh=>hh.elim (fun o=>o.2.1) fun h=>Nat.le_trans c.n h) id
theorem zH4 {j k:Nat}(hjk:j≠k){b:Nat}(o:Own n0 col j h b):¬ (Own n0 col k h b\/h.size<=b):=fun hh=>by
 rcases hh with hh | hh
 ·exact hjk (o.1.symm.trans hh.1)
 ·have:=o.2.2;omega
theorem ChI.addD (c:ChI n0 z kind col d s t dr ad af h){x:MV}{P:Nat->Prop}{y:Value}{K:zAd->Prop}(hx:zJJ (Own n0 col 4 h) h x.1 x.2.1 x.2.2.1 x.2.2.2)(hy:SlE 8 P h y [mvC x])(hl:dr.length<=1000000)
  (hk:∀ h' col' d',ChI n0 z kind col' d' s t (dr++[x]) ad af h'->Keep (fun b=>(Own n0 col 1 h b\/h.size<=b)\/b=z) h h'->K h'):zIV zAb 8 128 h d y fun v h1=>Mwr (st1 h1 (Ptr z 1) v) K:=by
 refine zAeD c.bd hy (by omega) (by rw[List.length_map,List.length_singleton];omega) c.n fun v h1 b1 k1=>?_
 have hz:¬ (Own n0 col 1 h z\/h.size<=z):=fun hh=>by
  have:=c.zl
  rcases hh with hh | hh
  ·have:=hh.2.1;omega
  ·have:=c.n;omega
 obtain⟨h2,st2,a2,k2⟩:=(c.a.keep k1 hz).st1 (i:=1) (v:=v) (by simp[chC]) b1.sl.oneC
 rw[st2,zAm]
 have g1:=k1.1
 have g2:=k2.1
 have zz:∀ {j b},Own n0 (zG6 col h 1) j h1 b->b≠z:=fun o e=>by have:=o.2.1;have:=c.zl;omega
 have up:∀ {j b},Own n0 (zG6 col h 1) j h1 b->Own n0 (zG6 col h 1) j h2 b:=fun o=>⟨o.1,o.2.1,by have:=o.2.2;omega⟩
 refine hk h2 (zG6 col h 1) v ⟨a2,?_,((((c.bs.keep k1 fun b o=>zH4 (by decide) o).mono fun _ o=>o.ext g1).keep k2 fun b o=>zz o).mono fun _ o=>up o),((((c.bt.keep k1 fun b o=>zH4 (by decide) o).mono fun _ o=>o.ext g1).keep k2 fun b o=>zz o).mono fun _ o=>up o),fun u hu=>?_,fun u hu=>((((c.ms u hu).keep k1 fun b o=>zH4 (by decide) o).mono fun _ o=>o.ext g1).keep k2 fun b o=>zz o).mono fun _ o=>up o,fun u hu=>((((c.mt u hu).keep k1 fun b o=>zH4 (by decide) o).mono fun _ o=>o.ext g1).keep k2 fun b o=>zz o).mono fun _ o=>up o,by have:=c.n;omega,c.zl⟩ ?_
 ·rw[show(dr++[x]).map mvC=dr.map mvC++[mvC x] by simp]
  exact(b1.keep k2 fun b o=>zz o).mono fun _ o=>up o
 ·rcases List.mem_append.1 hu with hu | hu
  ·exact((((c.md u hu).keep k1 fun b o=>zH4 (by decide) o).mono fun _ o=>o.ext g1).keep k2 fun b o=>zz o).mono fun _ o=>up o
  ·rw[List.mem_singleton.1 hu]
   exact(((hx.keep k1 fun b o=>zH4 (by decide) o).mono fun _ o=>o.ext g1).keep k2 fun b o=>zz o).mono fun _ o=>up o
 ·exact(k1.mono fun b _ hb => .inl hb).trans (k2.mono fun _ _ e => .inr e)
theorem ChI.addA (c:ChI n0 z kind col d s t dr ad af h){x:MV}{P:Nat->Prop}{y:Value}{K:zAd->Prop}(hx:zJJ (Own n0 col 4 h) h x.1 x.2.1 x.2.2.1 x.2.2.2)(hy:SlE 8 P h y [mvC x])(hl:af.length<=1000000)
  (hk:∀ h' col' t',ChI n0 z kind col' d s t' dr ad (af++[x]) h'->Keep (fun b=>(Own n0 col 3 h b\/h.size<=b)\/b=z) h h'->K h'):zIV zAb 8 128 h t y fun v h1=>Mwr (st1 h1 (Ptr z 3) v) K:=by
 refine zAeD c.bt hy (by omega) (by rw[List.length_map,List.length_singleton];omega) c.n fun v h1 b1 k1=>?_
 have hz:¬ (Own n0 col 3 h z\/h.size<=z):=fun hh=>by
  have:=c.zl
  rcases hh with hh | hh
  ·have:=hh.2.1;omega
  ·have:=c.n;omega
 obtain⟨h2,st2,a2,k2⟩:=(c.a.keep k1 hz).st1 (i:=3) (v:=v) (by simp[chC]) b1.sl.oneC
 rw[st2,zAm]
 have g1:=k1.1
 have g2:=k2.1
 have zz:∀ {j b},Own n0 (zG6 col h 3) j h1 b->b≠z:=fun o e=>by have:=o.2.1;have:=c.zl;omega
 have up:∀ {j b},Own n0 (zG6 col h 3) j h1 b->Own n0 (zG6 col h 3) j h2 b:=fun o=>⟨o.1,o.2.1,by have:=o.2.2;omega⟩
 refine hk h2 (zG6 col h 3) v ⟨a2,((((c.bd.keep k1 fun b o=>zH4 (by decide) o).mono fun _ o=>o.ext g1).keep k2 fun b o=>zz o).mono fun _ o=>up o),((((c.bs.keep k1 fun b o=>zH4 (by decide) o).mono fun _ o=>o.ext g1).keep k2 fun b o=>zz o).mono fun _ o=>up o),?_,fun u hu=>((((c.md u hu).keep k1 fun b o=>zH4 (by decide) o).mono fun _ o=>o.ext g1).keep k2 fun b o=>zz o).mono fun _ o=>up o,fun u hu=>((((c.ms u hu).keep k1 fun b o=>zH4 (by decide) o).mono fun _ o=>o.ext g1).keep k2 fun b o=>zz o).mono fun _ o=>up o,fun u hu=>?_,by have:=c.n;omega,c.zl⟩ ?_
 ·rw[show(af++[x]).map mvC=af.map mvC++[mvC x] by simp]
  exact(b1.keep k2 fun b o=>zz o).mono fun _ o=>up o
 ·rcases List.mem_append.1 hu with hu | hu
  ·exact((((c.mt u hu).keep k1 fun b o=>zH4 (by decide) o).mono fun _ o=>o.ext g1).keep k2 fun b o=>zz o).mono fun _ o=>up o
  ·rw[List.mem_singleton.1 hu]
   exact(((hx.keep k1 fun b o=>zH4 (by decide) o).mono fun _ o=>o.ext g1).keep k2 fun b o=>zz o).mono fun _ o=>up o
 ·exact(k1.mono fun b _ hb => .inl hb).trans (k2.mono fun _ _ e => .inr e)
theorem ChI.addS (c:ChI n0 z kind col d s t dr ad af h){x:PW}{P:Nat->Prop}{y:Value}{K:zAd->Prop}(hx:PkV (Own n0 col 4 h) h x)(hy:SlE 9 P h y [pvC x])(hl:ad.length<=1000000)
  (hk:∀ h' col' s',ChI n0 z kind col' d s' t dr (ad++[x]) af h'->Keep (fun b=>(Own n0 col 2 h b\/h.size<=b)\/b=z) h h'->K h'):zIV zAv 9 152 h s y fun v h1=>Mwr (st1 h1 (Ptr z 2) v) K:=by
 refine zAeD c.bs hy (by omega) (by rw[List.length_map,List.length_singleton];omega) c.n fun v h1 b1 k1=>?_
 have hz:¬ (Own n0 col 2 h z\/h.size<=z):=fun hh=>by
  have:=c.zl
  rcases hh with hh | hh
  ·have:=hh.2.1;omega
  ·have:=c.n;omega
 obtain⟨h2,st2,a2,k2⟩:=(c.a.keep k1 hz).st1 (i:=2) (v:=v) (by simp[chC]) b1.sl.oneC
 rw[st2,zAm]
 have g1:=k1.1
 have g2:=k2.1
 have zz:∀ {j b},Own n0 (zG6 col h 2) j h1 b->b≠z:=fun o e=>by have:=o.2.1;have:=c.zl;omega
 have up:∀ {j b},Own n0 (zG6 col h 2) j h1 b->Own n0 (zG6 col h 2) j h2 b:=fun o=>⟨o.1,o.2.1,by have:=o.2.2;omega⟩
 refine hk h2 (zG6 col h 2) v ⟨a2,((((c.bd.keep k1 fun b o=>zH4 (by decide) o).mono fun _ o=>o.ext g1).keep k2 fun b o=>zz o).mono fun _ o=>up o),?_,((((c.bt.keep k1 fun b o=>zH4 (by decide) o).mono fun _ o=>o.ext g1).keep k2 fun b o=>zz o).mono fun _ o=>up o),fun u hu=>((((c.md u hu).keep k1 fun b o=>zH4 (by decide) o).mono fun _ o=>o.ext g1).keep k2 fun b o=>zz o).mono fun _ o=>up o,fun u hu=>?_,fun u hu=>((((c.mt u hu).keep k1 fun b o=>zH4 (by decide) o).mono fun _ o=>o.ext g1).keep k2 fun b o=>zz o).mono fun _ o=>up o,by have:=c.n;omega,c.zl⟩ ?_
 ·rw[show(ad++[x]).map pvC=ad.map pvC++[pvC x] by simp]
  exact(b1.keep k2 fun b o=>zz o).mono fun _ o=>up o
 ·rcases List.mem_append.1 hu with hu | hu
  ·exact((((c.ms u hu).keep k1 fun b o=>zH4 (by decide) o).mono fun _ o=>o.ext g1).keep k2 fun b o=>zz o).mono fun _ o=>up o
  ·rw[List.mem_singleton.1 hu]
   exact(((hx.keep k1 fun b o=>zH4 (by decide) o).mono fun _ o=>o.ext g1).keep k2 fun b o=>zz o).mono fun _ o=>up o
 ·exact(k1.mono fun b _ hb => .inl hb).trans (k2.mono fun _ _ e => .inr e)
end
end Go.Proofs.YticdfkoncnnmmaaGreatDoor
