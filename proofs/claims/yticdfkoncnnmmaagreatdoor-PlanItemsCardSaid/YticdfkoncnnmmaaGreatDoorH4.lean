import Derived.Test.YticdfkoncnnmmaaGreatDoorG9
import Derived.Test.YticdfkoncnnmmaaGreatDoorH0
import Derived.Test.YticdfkoncnnmmaaGreatDoorH3
import Derived.Test.YticdfkoncnnmmaaGreatDoorH1
import Derived.Test.YticdfkoncnnmmaaGreatDoorGO
import Derived.Test.YticdfkoncnnmmaaGreatDoorG7
set_option linter.unusedSimpArgs false
set_option linter.unusedVariables false
set_option maxRecDepth 100000
set_option linter.unusedSectionVars false
namespace Go.Proofs.YticdfkoncnnmmaaGreatDoor
open Go.X Go.X.Diff
open Go.Sort (swp PermIn SortedIn Below SWO)
theorem zZC {α β:Type}{c:β->β->Int}(hc:zP1 c)(f:α->β):SWO fun a b=>decide (c (f a) (f b)<0):=by
 refine⟨fun x=>?_,fun x y z h1 h2=>?_,fun x y z h1 h2=>?_⟩
 ·have:c (f x) (f x)=0:=(hc.zero _ _).2 rfl
  simp[this]
 ·simp only[decide_eq_true_eq]at *
  have h3:c (f x) (f z)<=0:=hc.trans (by omega:c (f x) (f y)<=0) (by omega)
  rcases Int.lt_or_eq_of_le h3 with h | h
  ·exact h
  ·have e:=(hc.zero _ _).1 h
   rw[<- e]at h2
   have:=hc.turn (f x) (f y)
   omega
 ·simp only[decide_eq_false_iff_not]at *
  have t1:=hc.turn (f x) (f y)
  have t2:=hc.turn (f y) (f z)
  have t3:=hc.turn (f x) (f z)
  have:c (f z) (f x)<=0:=hc.trans (b:=f y) (by omega) (by omega)
  omega
section
variable {S:zIT} {α:Type} [Inhabited α] {lt:α->α->Bool} {enc:α->List Value} {evv:α->Value} {G:zAd->Prop} {F:Nat->Prop} {v:Value}
theorem zVs (C:zK4 S)(ok:zGx S enc evv lt G F v)(hO:SWO lt){H:zAd}{l:List α}{m:Nat}(hv:BufE S.n F H v (l.map enc))(hG:∀ h,Keep F H h->G h)(hF:∀ b,F b->b<H.size)(hl:l.length<=900000)(hm:m<=1000) :
  zAg prg S.fPdq ([v,.int .i64 ((0:Nat):Int),.int .i64 (l.length:Nat),.int .i64 (m:Nat)]++S.ex) H fun u H'=>(∃ l':List α,l'.Perm l/\l'.Pairwise (fun x y=>lt y x=false)/\BufE S.n F H' v (l'.map enc))/\Keep F H H':=by
 have hv':zDB S.n F H v enc l.toArray:=by unfold zDB;exact hv
 refine zAg.mono (zAgb C ok hO _ (d:=l.toArray) rfl (Nat.zero_le _) (by simp) (by simpa using hl) (.inl rfl) hv' hG hF hm) ?_
 rintro _ H' ⟨⟨d',hr,hP,hS⟩,k⟩
 refine⟨⟨d'.toList,?_,?_,hr⟩,k⟩
 ·have hz:d'.size=l.length:=by have:=hP.1;simpa using this
  have h2:=hP.2.2
  have e1:d'.extract 0 l.length=d':=by rw[<- hz];exact Array.extract_size
  have e2:l.toArray.extract 0 l.length=l.toArray:=by rw[show l.length=l.toArray.size by simp];exact Array.extract_size
  rw[e1,e2]at h2
  exact h2
 ·have hz:d'.size=l.length:=by have:=hP.1;simpa using this
  rw[List.pairwise_iff_getElem]
  intro i j hi hj hij
  have hi':i<d'.size:=by simpa using hi
  have hj':j<d'.size:=by simpa using hj
  have:=hS i j (Nat.zero_le _) hij (by omega)
  rw[getElem!_pos d' j hj',getElem!_pos d' i hi']at this
  simpa using this
end
theorem zPy {α:Type}{lt:α->α->Bool}:∀ {l m:List α},(∀ a ∈ l,∀ b ∈ l,lt a b=false->lt b a=false->a=b)->l.Perm m->l.Pairwise (fun x y=>lt y x=false)->m.Pairwise (fun x y=>lt y x=false)->l=m
 | [],m,_,h,_,_=>(List.nil_perm.1 h).symm
 | a :: l,[],_,h,_,_=>absurd (List.perm_nil.1 h) (by simp)
 | a :: l,b :: m,ha,h,h1,h2=>by
  obtain⟨p1,p2⟩:=List.pairwise_cons.1 h1
  obtain⟨q1,q2⟩:=List.pairwise_cons.1 h2
  have hab:a=b:=by
   have ha':a ∈ b :: m:=h.mem_iff.1 (by simp)
   have hb':b ∈ a :: l:=h.mem_iff.2 (by simp)
   rcases List.mem_cons.1 ha' with e | ha'
   ·exact e
   rcases List.mem_cons.1 hb' with e | hb'
   ·exact e.symm
   exact ha a (by simp) b (by simp[hb']) (q1 a ha') (p1 b hb')
  subst hab
  rw[zPy (fun x hx y hy=>ha x (by simp[hx]) y (by simp[hy])) ((List.perm_cons a).1 h) p2 q2]
theorem zZD {n:Nat}(h:n<18446744073709551616):cvI .u64 (.int .i64 (n:Nat))=some (.int .u64 (n:Nat)):=by rw[zDr,zIu h]
theorem zZE {H H':zAd}{u:Nat}{v:Value}(hu:u<1000000)(h:zAcs H u v H'):∃ m:Nat,v = .int .i64 (m:Nat)/\m<=1000/\H=H':=by
 obtain⟨rfl,m,rfl,h1,h2,h3⟩:=h
 refine⟨m,rfl,?_,rfl⟩
 rcases Nat.lt_or_ge 20 m with h | h
 ·have:2 ^ 20<=2 ^ (m - 1):=Nat.pow_le_pow_right (by omega) (by omega)
  omega
 ·omega
theorem zXu {G:zAd->Prop}{Fb:Nat->Prop}{H:zAd}{v fv:Value}{xs:List Int}{lt:Int->Int->Bool}(hv:BufE 1 Fb H v (zH3 xs))(hc:zAe2 fv xs lt G)(hG:∀ h,Keep Fb H h->G h)(hF:∀ b,Fb b->b<H.size)(hl:xs.length<=900000)
  (hO:SWO lt) (ha:∀ a ∈ xs,∀ b ∈ xs,lt a b=false->lt b a=false->a=b) (hs:(zFs lt xs).Perm xs/\(zFs lt xs).Pairwise (fun x y=>lt y x=false)) :
  zAg prg zBi [v,fv] H fun _ H'=>BufE 1 Fb H' v (zH3 (zFs lt xs))/\Keep Fb H H':=by
 by_cases h12:xs.length<=12
 ·exact zZi hv hc hG h12
 apply zDF
 unfold zDg
 have hlen:=hv.sl.len
 rw[zKI]at hlen
 rw[hlen,zAa,zZD (by omega),zAa]
 refine zAk (zZA (by omega) (by omega)) ?_
 intro v' h' hR
 obtain⟨m,rfl,hm,rfl⟩:=zZE (by omega) hR
 obtain⟨x0,hx0⟩:∃ x,x ∈ xs:=by
  cases xs with
  | nil=>exact absurd (Nat.zero_le _) h12
  | cons a l=>exact⟨a,by simp⟩
 let α:={x:Int // x ∈ xs}
 letI:Inhabited α:=⟨⟨x0,hx0⟩⟩
 let enc:α->List Value:=fun a=>[.int .i64 a.1]
 let lt':α->α->Bool:=fun a b=>lt a.1 b.1
 have hcE:zAht (Ev1 enc) fv lt' G:=fun x y h hg=>hc x.1 y.1 h x.2 y.2 hg
 have ok:zGx (zZv fv) enc (Ev1 enc) lt' G Fb v:=⟨fun hr _ hi=>zQe hr hi,fun hr _ _ hi hj=>zUj hr hi hj,fun hg hk=>zAcJ hcE hg hk⟩
 have hO':SWO lt':=⟨fun x=>hO.irrefl x.1,fun x y z=>hO.trans x.1 y.1 z.1,fun x y z=>hO.ntrans x.1 y.1 z.1⟩
 have he:(xs.attach.map enc)=zH3 xs:=by
  show xs.attach.map (fun a=>[Value.int .i64 a.1])=_
  rw[List.attach_map_val (l:=xs) (f:=fun n=>[Value.int .i64 n])]
  simp[zFB]
 refine zAk (R:=fun _ H'=>BufE 1 Fb H' v (zH3 (zFs lt xs))/\Keep Fb H H') ?_ fun _ h hR=>hR
 have hln:xs.attach.length=xs.length:=by simp
 refine zAg.mono (show zAg prg zBj [v,.int .i64 0,.int .i64 (xs.length:Nat),.int .i64 (m:Nat),fv] H _ from by
  have:=zVs (zAbK fv) ok hO' (l:=xs.attach) (m:=m) (by rw[he];exact hv) hG hF (by rw[hln];exact hl) hm
  rw[hln]at this
  exact this) ?_
 rintro _ H' ⟨⟨l',hp,hsd,hb⟩,k⟩
 refine⟨?_,k⟩
 have e1:l'.map enc=zH3 (l'.map (·.1)):=by simp[zFB,enc]
 have hp':(l'.map (·.1)).Perm xs:=by
  have:=hp.map (fun a:α=>a.1)
  rwa [List.attach_map_subtype_val]at this
 have hsd':(l'.map (·.1)).Pairwise (fun x y=>lt y x=false):=List.pairwise_map.2 hsd
 have:l'.map (·.1)=zFs lt xs:=zPy (fun a h1 b h2=>ha a (hp'.mem_iff.1 h1) b (hp'.mem_iff.1 h2)) (hp'.trans hs.1.symm) hsd' hs.2
 rw[<- this,<- e1];exact hb
theorem zUm {β:Type}{c:β->β->Int}(hc:zP1 c)(f:Int->β){xs:List Int}(hl:xs.length<=900000)(ha:∀ a ∈ xs,∀ b ∈ xs,f a=f b->a=b):zUi xs (fun x y=>decide (c (f x) (f y)<0)):=fun G F H v fv hv hcm hG hF=>by
 refine zXu hv hcm hG hF hl (zZC hc f) (fun a h1 b h2 e1 e2=>ha a h1 b h2 ?_) ⟨zPt,(zPT hc f).imp fun {a b} h=>?_⟩
 ·rw[decide_eq_false_iff_not]at e1 e2
  have:=hc.turn (f a) (f b)
  exact(hc.zero _ _).1 (by omega)
 ·rw[decide_eq_false_iff_not]
  have:=hc.turn (f a) (f b)
  omega
theorem zUn {hv:List Man}{ch:List Nat}(hN:zHK hv ch)(hl:ch.length<=1000):zUi (zs ch) (zZq hv) :=
 zUm zEL (fun x=>(gM hv x.toNat).name) (by rw[zNT];omega) fun a h1 b h2 e=>by
  obtain⟨i,hi,rfl⟩:=zNS h1
  obtain⟨j,hj,rfl⟩:=zNS h2
  rw[hN.same hi hj e]
theorem zXv {hv:List Man}{d:Dep}(hr:(List.range hv.length).all (zM6 hv)=true)(hl:hv.length<=1000):zUi (zs (zPu hv d)) (zS1 hv):=by
 have hfl:=List.length_filter_le (fun k=>zNp d (gM hv k)) (List.range hv.length)
 rw[List.length_range]at hfl
 have hc:zP1 (fun x y:Ver=>zAao y x):=⟨fun a b=>zNk.three b a,fun a b=>zNk.turn b a,fun a b=>⟨fun h=>((zNk.zero _ _).1 h).symm,fun h=>(zNk.zero _ _).2 h.symm⟩,fun h1 h2=>zNk.trans h2 h1⟩
 refine zUm hc (fun x=>(gM hv x.toNat).ver) (by rw[zNT];unfold zPu;omega) fun a h1 b h2 e=>?_
 obtain⟨i,hi,rfl⟩:=zNS h1
 obtain⟨j,hj,rfl⟩:=zNS h2
 unfold zPu at hi hj
 obtain⟨i1,i2⟩:=List.mem_filter.1 hi
 obtain⟨j1,j2⟩:=List.mem_filter.1 hj
 rw[zAep hr (List.mem_range.1 i1) (List.mem_range.1 j1) ((zLx i2).trans (zLx j2).symm) e]
theorem _root_.Go.X.L4_i {body:(Value->Value->Value->Value->zAd->Prop)->Value->Value->Value->Value->zAd->Prop}{v u x y:Value}{H:zAd}(I:Value->Value->Value->Value->zAd->Prop)(μ:Value->Value->Value->Value->zAd->Nat)(h0:I v u x y H)
  (hs:∀ v u x y h,I v u x y h->∀ k:Value->Value->Value->Value->zAd->Prop,(∀ v' u' x' y' h',I v' u' x' y' h'->μ v' u' x' y' h'<μ v u x y h->k v' u' x' y' h')->body k v u x y h):L4 body v u x y H:=by
 refine⟨fun vs h=>∃ v u x y,vs=[v,u,x,y]/\I v u x y h,fun vs h=>match vs with | [v,u,x,y]=>μ v u x y h | _=>0,⟨v,u,x,y,rfl,h0⟩,?_⟩
 rintro vs h _ ⟨v,u,x,y,rfl,hI⟩
 exact hs v u x y h hI _ fun v' u' x' y' h' hI' hm=>⟨⟨v',u',x',y',rfl,hI'⟩,hm⟩
abbrev PV:=Value×Value×Value
def zXQ (v:PV):List Value:=[v.1,v.2.1,v.2.2]
structure zXR (Q:Nat->Prop)(H:zAd)(p:Pnt)(v:PV):Prop where
 c:SlE 1 Q H v.1 (zH3 (zs p.ch))
 w:SlE 6 Q H v.2.1 (p.ws.map zDa)
 l:SlE 1 Q H v.2.2 (zH3 (zs p.ks))
theorem zXR.keep {Q S:Nat->Prop}{H H':zAd}{p:Pnt}{v:PV}(h:zXR Q H p v)(k:Keep S H H')(hs:∀ b,Q b->¬ S b):zXR Q H' p v:=⟨h.c.keep k hs,h.w.keep k hs,h.l.keep k hs⟩
theorem zXR.mono {Q R:Nat->Prop}{H:zAd}{p:Pnt}{v:PV}(h:zXR Q H p v)(k:∀ b,Q b->R b):zXR R H p v:=⟨h.c.mono k,h.w.mono k,h.l.mono k⟩
def zPz (Q:Nat->Prop)(H:zAd):List Pnt->List PV->Prop
 | [],[]=>True
 | p :: ps,v :: vs=>zXR Q H p v/\zPz Q H ps vs
 | _,_=>False
theorem zPz.len {Q:Nat->Prop}{H:zAd}:∀ {ps:List Pnt} {vs:List PV},zPz Q H ps vs->vs.length=ps.length
 | [],[],_=>rfl
 | p :: ps,v :: vs,h=>by rw[List.length_cons,List.length_cons,zPz.len h.2]
 | [],_ :: _,h=>h.elim
 | _ :: _,[],h=>h.elim
theorem zPz.keep {Q S:Nat->Prop}{H H':zAd}(k:Keep S H H')(hs:∀ b,Q b->¬ S b):∀ {ps:List Pnt} {vs:List PV},zPz Q H ps vs->zPz Q H' ps vs
 | [],[],_=>trivial
 | p :: ps,v :: vs,h=>⟨h.1.keep k hs,zPz.keep k hs h.2⟩
 | [],_ :: _,h=>h.elim
 | _ :: _,[],h=>h.elim
theorem zPz.mono {Q R:Nat->Prop}{H:zAd}(k:∀ b,Q b->R b):∀ {ps:List Pnt} {vs:List PV},zPz Q H ps vs->zPz R H ps vs
 | [],[],_=>trivial
 | p :: ps,v :: vs,h=>⟨h.1.mono k,zPz.mono k h.2⟩
 | [],_ :: _,h=>h.elim
 | _ :: _,[],h=>h.elim
def Qf (B:Nat)(F:Nat->Prop)(h:zAd):Nat->Prop:=fun b=>B<=b/\b<h.size/\¬ F b
theorem Qf.up {B:Nat}{F:Nat->Prop}{h h':zAd}(k:h.size<=h'.size):∀ b,Qf B F h b->Qf B F h' b:=fun b ⟨h1,h2,h3⟩=>⟨h1,Nat.lt_of_lt_of_le h2 k,h3⟩
def Stk (B:Nat)(h:zAd)(F:Nat->Prop)(ps:List Pnt)(t:Value):Prop:=(∀ b,F b->B<=b/\b<h.size)/\∃ vs:List PV,BufE 3 F h t (vs.reverse.map zXQ)/\zPz (Qf B F h) h ps vs
section
variable {B:Nat} {h h':zAd} {F:Nat->Prop} {ps:List Pnt} {p:Pnt} {t:Value}
theorem Stk.nil:Stk B h (fun _=>False) [] (.slice none 0 0):=⟨fun b hb=>hb.elim,[],BufE.nil,trivial⟩
theorem Stk.keep (s:Stk B h F ps t)(k:Keep (fun _=>False) h h'):Stk B h' F ps t:=by
 obtain⟨h1,vs,h2,h3⟩:=s
 exact⟨fun b hb=>⟨(h1 b hb).1,Nat.lt_of_lt_of_le (h1 b hb).2 k.1⟩,vs,h2.keep k fun _ _=>id,(h3.keep k fun _ _=>id).mono (Qf.up k.1)⟩
theorem Stk.len (s:Stk B h F ps t):zBO t=some (.int .i64 (ps.length:Nat)):=by
 obtain⟨h1,vs,h2,h3⟩:=s
 have:=h2.sl.len
 rw[List.length_map,List.length_reverse,h3.len]at this
 exact this
theorem Stk.shape (s:Stk B h F ps t):∃ a c,t = .slice a ps.length c:=by
 obtain⟨h1,vs,h2,h3⟩:=s
 obtain⟨⟨a,c,e,_⟩,_⟩:=h2.sl
 rw[List.length_map,List.length_reverse,h3.len]at e
 exact⟨a,c,e⟩
theorem Stk.push {T:TypeId}{P:Nat->Prop}{x:Value}{v:PV}{k:Value->zAd->Prop}(s:Stk B h F ps t)(hp:zXR (Qf B F h) h p v)(hB:B<=h.size)(hl:ps.length<=1000)(hx:SlE 3 P h x [zXQ v])
  (hk:∀ u h' F',Stk B h' F' (p :: ps) u->Keep (fun b=>F b\/h.size<=b) h h'->k u h'):zIV T 3 72 h t x k:=by
 obtain⟨h1,vs,h2,h3⟩:=s
 have hvl:=h3.len
 refine BufE.app (F:=fun b=>F b\/h.size<=b) (h2.mono fun b hb => .inl hb) hx (by omega) (by simp;omega) (.inr (Nat.le_refl _)) fun u h' hu ku=>?_
 have gu:=ku.1
 have hq:∀ b,Qf B F h b->Qf B (fun b=>(F b\/h.size<=b)/\b<h'.size) h' b:=fun b ⟨q1,q2,q3⟩=>⟨q1,by omega,fun hh=>hh.1.elim q3 fun hh=>by omega⟩
 have hn:∀ b,Qf B F h b->¬ (F b\/h.size<=b):=fun b ⟨q1,q2,q3⟩ hh=>hh.elim q3 fun hh=>by omega
 refine hk u h' (fun b=>(F b\/h.size<=b)/\b<h'.size) ⟨fun b hb=>⟨hb.1.elim (fun hb=>(h1 b hb).1) fun hb=>by omega,hb.2⟩,v :: vs,?_,(hp.keep ku hn).mono hq,(h3.keep ku hn).mono hq⟩ ku
 rw[List.reverse_cons,List.map_append,List.map_cons,List.map_nil]
 exact BufE.re hu fun b hb hF=>⟨hF,hb⟩
theorem zZF {v:PV}{vs:List PV}:((v :: vs).reverse.map zXQ)[vs.length]? = some (zXQ v):=by
 rw[List.reverse_cons,List.map_append,List.getElem?_append_right (by simp),List.length_map,List.length_reverse,Nat.sub_self];rfl
theorem Stk.top (s:Stk B h F (p :: ps) t):∃ b o v,(∀ k,ixS 3 t (.int k (ps.length:Nat))=some (Ptr b o))/\Pt h b o (zXQ v)/\zXR (Qf B F h) h p v /\
  ∀ (w:Value) (ks:List Nat),w.oneCell'=true->SlE 1 (Qf B F h) h w (zH3 (zs ks))->∃ h',st1 h (Ptr b (o+2)) w=some h'/\Keep F h h'/\Stk B h' F (⟨p.ch,p.ws,ks⟩ :: ps) t/\Pt h' b o (zXQ (v.1,v.2.1,w))/\zXR (Qf B F h') h' ⟨p.ch,p.ws,ks⟩ (v.1,v.2.1,w):=by
 obtain⟨h1,vs,h2,h3⟩:=s
 cases vs with
 | nil=>exact h3.elim
 | cons v vs =>
  have hvl:=h3.2.len
  obtain⟨b,o,hix,hpt,hF⟩:=h2.sl.at zZF
  refine⟨b,o,v,fun k=>by rw[<- hvl];exact hix k,hpt,h3.1,fun w ks hw hs=>?_⟩
  obtain⟨b',o',h',hix',hpt',hst,hb',hk⟩:=h2.st (i:=vs.length) (j:=2) zZF (by omega) hw
  have hpe:Ptr b o=Ptr b' o':=Option.some.inj ((hix .i64).symm.trans (hix' .i64))
  injection hpe with hpe
  injection hpe with hpe
  injection hpe with hpb hpo
  subst hpb hpo
  have hn:∀ b,Qf B F h b->¬ F b:=fun b q=>q.2.2
  have hrow:((v :: vs).reverse.map zXQ).set vs.length ((zXQ v).set 2 w)=(((v.1,v.2.1,w):PV) :: vs).reverse.map zXQ:=by
   rw[List.reverse_cons,List.map_append,List.set_append_right _ _ (by simp),List.length_map,List.length_reverse,Nat.sub_self,List.reverse_cons,List.map_append];rfl
  rw[hrow]at hb'
  have hnew:zXR (Qf B F h') h' ⟨p.ch,p.ws,ks⟩ (v.1,v.2.1,w):=⟨(h3.1.c.keep hk hn).mono (Qf.up hk.1),(h3.1.w.keep hk hn).mono (Qf.up hk.1),(hs.keep hk hn).mono (Qf.up hk.1)⟩
  refine⟨h',hst,hk,⟨fun b hb=>⟨(h1 b hb).1,Nat.lt_of_lt_of_le (h1 b hb).2 hk.1⟩,_,hb',hnew,(h3.2.keep hk hn).mono (Qf.up hk.1)⟩,?_,hnew⟩
  obtain⟨b2,o2,hix2,hpt2,_⟩:=hb'.sl.at (zZF (v:=(v.1,v.2.1,w)))
  have hpe:Ptr b o=Ptr b2 o2:=Option.some.inj ((hix .i64).symm.trans (hix2 .i64))
  injection hpe with hpe
  injection hpe with hpe
  injection hpe with hpb hpo
  subst hpb hpo
  exact hpt2
theorem _root_.Go.X.BufE.pre {n:Nat}{F:Nat->Prop}{H:zAd}{v:Value}{xs ys:List (List Value)}(h:BufE n F H v (xs++ys)):∃ u,slS n v none (some (.int .i64 (xs.length:Nat))) none=some u/\BufE n F H u xs:=by
 obtain⟨h1,h2,h | ⟨b,o,c,cs,T,f,rfl,hf,hc,hb,hle,ht,hl⟩⟩:=h
 ·obtain⟨rfl,he⟩:=h
  obtain⟨rfl,rfl⟩:=List.append_eq_nil_iff.1 he
  exact⟨.slice none 0 0,rfl,BufE.nil⟩
 ·rw[List.length_append]at hc hl
  have hbn:zKt (xs.length+ys.length) c none (some (.int .i64 (xs.length:Nat))) none=some (0,xs.length,c):=by
   simp only[zKt,bnd,Option.bind_some]
   rw[if_pos (by omega)];rfl
  have e1:∀ x ∈ xs,x.length=n:=fun x hx=>h1 x (List.mem_append_left _ hx)
  refine⟨.slice (some ⟨b,if c=0 then o else o+0 * n,none⟩) xs.length c,by simp[slS,hbn],e1,fun x hx=>h2 x (List.mem_append_left _ hx),.inr ⟨b,_,c,cs,T,f,rfl,hf,by omega,hb,?_,ht,?_⟩⟩
  ·rw[Nat.zero_mul,Nat.add_zero,ite_self];exact hle
  ·rw[Nat.zero_mul,Nat.add_zero,ite_self]
   have:=congrArg (List.take (xs.length * n)) hl
   rw[List.take_take,Nat.min_eq_left (Nat.mul_le_mul_right n (by omega)),List.flatten_append,List.take_append_of_le_length (by rw[zGB e1];exact Nat.le_refl _)]at this
   exact this.trans (List.take_of_length_le (by rw[zGB e1];exact Nat.le_refl _))
theorem Stk.pop (s:Stk B h F (p :: ps) t):∃ u,slS 3 t none (some (.int .i64 (ps.length:Nat))) none=some u/\Stk B h F ps u:=by
 obtain⟨h1,vs,h2,h3⟩:=s
 cases vs with
 | nil=>exact h3.elim
 | cons v vs =>
  have hvl:=h3.2.len
  rw[List.reverse_cons,List.map_append]at h2
  obtain⟨u,hu,hb⟩:=h2.pre
  rw[List.length_map,List.length_reverse,hvl]at hu
  exact⟨u,hu,h1,vs,hb,h3.2⟩
end
def zAiG (hv:List Man)(p:Pnt)(n:Nat):Prop:=p.ch.length=n/\n<=40/\(∀ d ∈ p.ws,d.wf)/\p.ws.length<=64+1000 * n/\p.ks.length<=40/\∀ k ∈ p.ks,zHK hv (p.ch++[k])
def zAgO (hv:List Man):List Pnt->Prop
 | []=>True
 | p :: ps=>zAiG hv p ps.length/\zAgO hv ps
end Go.Proofs.YticdfkoncnnmmaaGreatDoor
