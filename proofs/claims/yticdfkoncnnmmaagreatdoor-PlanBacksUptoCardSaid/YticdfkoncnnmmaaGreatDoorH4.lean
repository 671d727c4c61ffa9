import Derived.Test.YticdfkoncnnmmaaGreatDoorG9
import Derived.Test.YticdfkoncnnmmaaGreatDoorH0
import Derived.Test.YticdfkoncnnmmaaGreatDoorH3
import Derived.Test.YticdfkoncnnmmaaGreatDoorH1
import Derived.Test.YticdfkoncnnmmaaGreatDoorGO
import Derived.Test.YticdfkoncnnmmaaGreatDoorG6
import Derived.Test.YticdfkoncnnmmaaGreatDoorG8
set_option linter.unusedSimpArgs false
set_option linter.unusedVariables false
set_option maxRecDepth 100000
set_option linter.unusedSectionVars false
namespace Go.Proofs.YticdfkoncnnmmaaGreatDoor
open Go.X Go.X.Diff
open Go.Sort (swp PermIn SortedIn Below SWO)
theorem zAdK {α β:Type}{c:β->β->Int}(hc:zTx c)(f:α->β):SWO λa b=>decide (c (f a) (f b)<0):=by
 refine⟨λx=>?_,λx y z h1 h2=>?_,λx y z h1 h2=>?_⟩
 ·have:c (f x) (f x)=0:=(hc.zero _ _).2 rfl
  simp[this]
 ·simp only[decide_eq_true_eq]at *
  have h3:c (f x) (f z)<=0:=hc.trans (by omega:c (f x) (f y)<=0) (by omega)
  rcases Int.lt_or_eq_of_le h3 with h|h
  ·exact h
  ·have e:=(hc.zero _ _).1 h
   rw[<- e]at h2
   have:=hc.turn (f x) (f y)
   omega
 ·simp only[decide_eq_false_iff_not]at *
  have t1:=hc.turn (f x) (f y)
  have t2:=hc.turn (f y) (f z)
  have t3:=hc.turn (f x) (f z)
  have:c (f z) (f x)<=0:=hc.trans (b:=f y) (by omega) (by omega)
  omega
section
variable {S:zLz} {α:Type} [Inhabited α] {lt:α->α->Bool} {enc:α->List Value} {evv:α->Value} {G:zAx->Prop} {F:zA1} {v:Value}
theorem zZk (C:zNW S)(ok:zIW S enc evv lt G F v)(hO:SWO lt){H:zAx}{l:List α}{m:Nat}(hv:BufE S.n F H v (l.map enc))(hG:∀ h,Keep F H h->G h)(hF:∀ b,F b->b<H.size)(hl:l.length<=900000)(hm:m<=1000) :
  zAA prg S.fPdq ([v,.int .i64 ((0:Nat):Int),.int .i64 (l.length:Nat),.int .i64 (m:Nat)]++S.ex) H λu H'=>(∃ l':List α,l'.Perm l/\l'.Pairwise (λx y=>lt y x=false)/\BufE S.n F H' v (l'.map enc))/\Keep F H H':=by
 have hv':zFT S.n F H v enc l.toArray:=by unfold zFT;exact hv
 refine zAA.mono (zAkM C ok hO _ (d:=l.toArray) rfl (zAz _) (by simp) (by simpa using hl) (.inl rfl) hv' hG hF hm) ?_
 rintro _ H' ⟨⟨d',hr,hP,hS⟩,k⟩
 refine⟨⟨d'.toList,?_,?_,hr⟩,k⟩
 ·have hz:d'.size=l.length:=by have:=hP.1;simpa using this
  have h2:=hP.2.2
  have e1:d'.extract 0 l.length=d':=by rw[<- hz];exact Array.extract_size
  have e2:l.toArray.extract 0 l.length=l.toArray:=by rw[show l.length=l.toArray.size by simp];exact Array.extract_size
  rw[e1,e2]at h2
  exact h2
 ·have hz:d'.size=l.length:=by have:=hP.1;simpa using this
  rw[zBH]
  intro i j hi hj hij
  have hi':i<d'.size:=by simpa using hi
  have hj':j<d'.size:=by simpa using hj
  have:=hS i j (zAz _) hij (by omega)
  rw[getElem!_pos d' j hj',getElem!_pos d' i hi']at this
  simpa using this
end
theorem zSX {α:Type}{lt:α->α->Bool}:∀ {l m:List α},(∀ a∈l,∀ b∈l,lt a b=false->lt b a=false->a=b)->l.Perm m->l.Pairwise (λx y=>lt y x=false)->m.Pairwise (λx y=>lt y x=false)->l=m
 | [],m,_,h,_,_=>(List.nil_perm.1 h).symm
 | a::l,[],_,h,_,_=>absurd (List.perm_nil.1 h) (by simp)
 | a::l,b::m,ha,h,h1,h2=>by
  obtain⟨p1,p2⟩:=zCg.1 h1
  obtain⟨q1,q2⟩:=zCg.1 h2
  have hab:a=b:=by
   have ha':a∈b::m:=h.mem_iff.1 (by simp)
   have hb':b∈a::l:=h.mem_iff.2 (by simp)
   rcases zAs.1 ha' with e|ha'
   ·exact e
   rcases zAs.1 hb' with e|hb'
   ·exact e.symm
   exact ha a (by simp) b (by simp[hb']) (q1 a ha') (p1 b hb')
  subst hab
  rw[zSX (λx hx y hy=>ha x (by simp[hx]) y (by simp[hy])) ((List.perm_cons a).1 h) p2 q2]
theorem zAdL {n:Nat}(h:n<18446744073709551616):cvI .u64 (.int .i64 (n:Nat))=some (.int .u64 (n:Nat)):=by rw[zFH,zK3 h]
theorem zAdM {H H':zAx}{u:Nat}{v:Value}(hu:u<1000000)(h:zAgO H u v H'):∃ m:Nat,v = .int .i64 (m:Nat)/\m<=1000/\H=H':=by
 obtain⟨rfl,m,rfl,h1,h2,h3⟩:=h
 refine⟨m,rfl,?_,rfl⟩
 rcases Nat.lt_or_ge 20 m with h|h
 ·have:2 ^ 20<=2 ^ (m-1):=zBL (by omega) (by omega)
  omega
 ·omega
theorem zAby {G:zAx->Prop}{Fb:zA1}{H:zAx}{v fv:Value}{xs:List Int}{lt:Int->Int->Bool}(hv:BufE 1 Fb H v (zKC xs))(hc:zAjA fv xs lt G)(hG:∀ h,Keep Fb H h->G h)(hF:∀ b,Fb b->b<H.size)(hl:xs.length<=900000)
  (hO:SWO lt) (ha:∀ a∈xs,∀ b∈xs,lt a b=false->lt b a=false->a=b) (hs:(zHP lt xs).Perm xs/\(zHP lt xs).Pairwise (λx y=>lt y x=false)) :
  zAA prg zDq [v,fv] H λ_ H'=>BufE 1 Fb H' v (zKC (zHP lt xs))/\Keep Fb H H':=by
 by_cases h12:xs.length<=12
 ·exact zAdq hv hc hG h12
 apply zFX
 unfold zFx
 have hlen:=hv.sl.len
 rw[zNC]at hlen
 rw[hlen,zAa,zAdL (by omega),zAa]
 refine zAI (zAdI (by omega) (by omega)) ?_
 intro v' h' hR
 obtain⟨m,rfl,hm,rfl⟩:=zAdM (by omega) hR
 obtain⟨x0,hx0⟩:∃ x,x∈xs:=by
  cases xs with
  | nil=>exact absurd (zAz _) h12
  | cons a l=>exact⟨a,by simp⟩
 let α:={x:Int // x∈xs}
 letI:Inhabited α:=⟨⟨x0,hx0⟩⟩
 let enc:α->List Value:=λa=>[.int .i64 a.1]
 let lt':α->α->Bool:=λa b=>lt a.1 b.1
 have hcE:zAmh (Ev1 enc) fv lt' G:=λx y h hg=>hc x.1 y.1 h x.2 y.2 hg
 have ok:zIW (zAdD fv) enc (Ev1 enc) lt' G Fb v:=⟨λhr _ hi=>zTH hr hi,λhr _ _ hi hj=>zX4 hr hi hj,λhg hk=>zAg5 hcE hg hk⟩
 have hO':SWO lt':=⟨λx=>hO.irrefl x.1,λx y z=>hO.trans x.1 y.1 z.1,λx y z=>hO.ntrans x.1 y.1 z.1⟩
 have he:(xs.attach.map enc)=zKC xs:=by
  show xs.attach.map (λa=>[Value.int .i64 a.1])=_
  rw[List.attach_map_val (l:=xs) (f:=λn=>[Value.int .i64 n])]
  simp[zHL]
 refine zAI (R:=λ_ H'=>BufE 1 Fb H' v (zKC (zHP lt xs))/\Keep Fb H H') ?_ λ_ h hR=>hR
 have hln:xs.attach.length=xs.length:=by simp
 refine zAA.mono (show zAA prg zDr [v,.int .i64 0,.int .i64 (xs.length:Nat),.int .i64 (m:Nat),fv] H _ from by
  have:=zZk (zAfP fv) ok hO' (l:=xs.attach) (m:=m) (by rw[he];exact hv) hG hF (by rw[hln];exact hl) hm
  rw[hln]at this
  exact this) ?_
 rintro _ H' ⟨⟨l',hp,hsd,hb⟩,k⟩
 refine⟨?_,k⟩
 have e1:l'.map enc=zKC (l'.map (·.1)):=by simp[zHL,enc]
 have hp':(l'.map (·.1)).Perm xs:=by
  have:=hp.map (λa:α=>a.1)
  rwa [List.attach_map_subtype_val]at this
 have hsd':(l'.map (·.1)).Pairwise (λx y=>lt y x=false):=zBu.2 hsd
 have:l'.map (·.1)=zHP lt xs:=zSX (λa h1 b h2=>ha a (hp'.mem_iff.1 h1) b (hp'.mem_iff.1 h2)) (hp'.trans hs.1.symm) hsd' hs.2
 rw[<- this,<- e1];exact hb
theorem zX7 {β:Type}{c:β->β->Int}(hc:zTx c)(f:Int->β){xs:List Int}(hl:xs.length<=900000)(ha:∀ a∈xs,∀ b∈xs,f a=f b->a=b):zX3 xs (λx y=>decide (c (f x) (f y)<0)):=λG F H v fv hv hcm hG hF=>by
 refine zAby hv hcm hG hF hl (zAdK hc f) (λa h1 b h2 e1 e2=>ha a h1 b h2 ?_) ⟨zSS,(zTo hc f).imp λ{a b} h=>?_⟩
 ·rw[decide_eq_false_iff_not]at e1 e2
  have:=hc.turn (f a) (f b)
  exact(hc.zero _ _).1 (by omega)
 ·rw[decide_eq_false_iff_not]
  have:=hc.turn (f a) (f b)
  omega
theorem zX8 {hv:List Man}{ch:List Nat}(hN:zKg hv ch)(hl:ch.length<=1000):zX3 (zs ch) (zAdy hv) :=
 zX7 zFb (λx=>(gM hv x.toNat).name) (by rw[zQY];omega) λa h1 b h2 e=>by
  obtain⟨i,hi,rfl⟩:=zQX h1
  obtain⟨j,hj,rfl⟩:=zQX h2
  rw[hN.same hi hj e]
theorem zAbz {hv:List Man}{d:Dep}(hr:(List.range hv.length).all (zP5 hv)=true)(hl:hv.length<=1000):zX3 (zs (zST hv d)) (zWJ hv):=by
 have hfl:=zBi (λk=>zQs d (gM hv k)) (List.range hv.length)
 rw[List.length_range]at hfl
 have hc:zTx (λx y:Ver=>zAet y x):=⟨λa b=>zQo.three b a,λa b=>zQo.turn b a,λa b=>⟨λh=>((zQo.zero _ _).1 h).symm,λh=>(zQo.zero _ _).2 h.symm⟩,λh1 h2=>zQo.trans h2 h1⟩
 refine zX7 hc (λx=>(gM hv x.toNat).ver) (by rw[zQY];unfold zST;omega) λa h1 b h2 e=>?_
 obtain⟨i,hi,rfl⟩:=zQX h1
 obtain⟨j,hj,rfl⟩:=zQX h2
 unfold zST at hi hj
 obtain⟨i1,i2⟩:=zBd.1 hi
 obtain⟨j1,j2⟩:=zBd.1 hj
 rw[zAiQ hr (zBC.1 i1) (zBC.1 j1) ((zOp i2).trans (zOp j2).symm) e]
theorem _root_.Go.X.L4_i {body:(Value->Value->Value->zAm)->Value->Value->Value->zAm}{v u x y:Value}{H:zAx}(I:Value->Value->Value->zAm)(μ:Value->Value->Value->Value->zAx->Nat)(h0:I v u x y H)
  (hs:∀ v u x y h,I v u x y h->∀ k:Value->Value->Value->zAm,(∀ v' u' x' y' h',I v' u' x' y' h'->μ v' u' x' y' h'<μ v u x y h->k v' u' x' y' h')->body k v u x y h):L4 body v u x y H:=by
 refine⟨λvs h=>∃ v u x y,vs=[v,u,x,y]/\I v u x y h,λvs h=>match vs with|[v,u,x,y]=>μ v u x y h|_=>0,⟨v,u,x,y,rfl,h0⟩,?_⟩
 rintro vs h _ ⟨v,u,x,y,rfl,hI⟩
 exact hs v u x y h hI _ λv' u' x' y' h' hI' hm=>⟨⟨v',u',x',y',rfl,hI'⟩,hm⟩
abbrev PV:=Value×Value×Value
def zAbZ (v:PV):List Value:=[v.1,v.2.1,v.2.2]
structure zAb0 (Q:zA1)(H:zAx)(p:Pnt)(v:PV):Prop where
 c:SlE 1 Q H v.1 (zKC (zs p.ch))
 w:SlE 6 Q H v.2.1 (p.ws.map zFp)
 l:SlE 1 Q H v.2.2 (zKC (zs p.ks))
theorem zAb0.keep {Q S:zA1}{H H':zAx}{p:Pnt}{v:PV}(h:zAb0 Q H p v)(k:Keep S H H')(hs:∀ b,Q b->¬ S b):zAb0 Q H' p v:=⟨h.c.keep k hs,h.w.keep k hs,h.l.keep k hs⟩
theorem zAb0.mono {Q R:zA1}{H:zAx}{p:Pnt}{v:PV}(h:zAb0 Q H p v)(k:∀ b,Q b->R b):zAb0 R H p v:=⟨h.c.mono k,h.w.mono k,h.l.mono k⟩
def zSY (Q:zA1)(H:zAx):List Pnt->List PV->Prop
 | [],[]=>True
 | p::ps,v::vs=>zAb0 Q H p v/\zSY Q H ps vs
 | _,_=>False
theorem zSY.len {Q:zA1}{H:zAx}:∀ {ps:List Pnt} {vs:List PV},zSY Q H ps vs->vs.length=ps.length
 | [],[],_=>rfl
 | p::ps,v::vs,h=>by rw[zAS,zAS,zSY.len h.2]
 | [],_::_,h=>h.elim
 | _::_,[],h=>h.elim
theorem zSY.keep {Q S:zA1}{H H':zAx}(k:Keep S H H')(hs:∀ b,Q b->¬ S b):∀ {ps:List Pnt} {vs:List PV},zSY Q H ps vs->zSY Q H' ps vs
 | [],[],_=>trivial
 | p::ps,v::vs,h=>⟨h.1.keep k hs,zSY.keep k hs h.2⟩
 | [],_::_,h=>h.elim
 | _::_,[],h=>h.elim
theorem zSY.mono {Q R:zA1}{H:zAx}(k:∀ b,Q b->R b):∀ {ps:List Pnt} {vs:List PV},zSY Q H ps vs->zSY R H ps vs
 | [],[],_=>trivial
 | p::ps,v::vs,h=>⟨h.1.mono k,zSY.mono k h.2⟩
 | [],_::_,h=>h.elim
 | _::_,[],h=>h.elim
def Qf (B:Nat)(F:zA1)(h:zAx):zA1:=λb=>B<=b/\b<h.size/\¬ F b
theorem Qf.up {B:Nat}{F:zA1}{h h':zAx}(k:h.size<=h'.size):∀ b,Qf B F h b->Qf B F h' b:=λb ⟨h1,h2,h3⟩=>⟨h1,zAM h2 k,h3⟩
def Stk (B:Nat)(h:zAx)(F:zA1)(ps:List Pnt)(t:Value):Prop:=(∀ b,F b->B<=b/\b<h.size)/\∃ vs:List PV,BufE 3 F h t (vs.reverse.map zAbZ)/\zSY (Qf B F h) h ps vs
section
variable {B:Nat} {h h':zAx} {F:zA1} {ps:List Pnt} {p:Pnt} {t:Value}
theorem Stk.nil:Stk B h (λ_=>False) [] (.slice none 0 0):=⟨λb hb=>hb.elim,[],BufE.nil,trivial⟩
theorem Stk.keep (s:Stk B h F ps t)(k:Keep zAK h h'):Stk B h' F ps t:=by
 obtain⟨h1,vs,h2,h3⟩:=s
 exact⟨λb hb=>⟨(h1 b hb).1,zAM (h1 b hb).2 k.1⟩,vs,h2.keep k λ_ _=>id,(h3.keep k λ_ _=>id).mono (Qf.up k.1)⟩
theorem Stk.len (s:Stk B h F ps t):lenV t=some (.int .i64 (ps.length:Nat)):=by
 obtain⟨h1,vs,h2,h3⟩:=s
 have:=h2.sl.len
 rw[zAd,zC2,h3.len]at this
 exact this
theorem Stk.shape (s:Stk B h F ps t):∃ a c,t = .slice a ps.length c:=by
 obtain⟨h1,vs,h2,h3⟩:=s
 obtain⟨⟨a,c,e,_⟩,_⟩:=h2.sl
 rw[zAd,zC2,h3.len]at e
 exact⟨a,c,e⟩
theorem Stk.push {T:TypeId}{P:zA1}{x:Value}{v:PV}{k:zAm}(s:Stk B h F ps t)(hp:zAb0 (Qf B F h) h p v)(hB:B<=h.size)(hl:ps.length<=1000)(hx:SlE 3 P h x [zAbZ v])
  (hk:∀ u h' F',Stk B h' F' (p::ps) u->Keep (λb=>F b\/h.size<=b) h h'->k u h'):zIw T 3 72 h t x k:=by
 obtain⟨h1,vs,h2,h3⟩:=s
 have hvl:=h3.len
 refine BufE.app (F:=λb=>F b\/h.size<=b) (h2.mono λb hb => .inl hb) hx (by omega) (by simp;omega) (.inr (zAh _)) λu h' hu ku=>?_
 have gu:=ku.1
 have hq:∀ b,Qf B F h b->Qf B (λb=>(F b\/h.size<=b)/\b<h'.size) h' b:=λb ⟨q1,q2,q3⟩=>⟨q1,by omega,λhh=>hh.1.elim q3 λhh=>by omega⟩
 have hn:∀ b,Qf B F h b->¬ (F b\/h.size<=b):=λb ⟨q1,q2,q3⟩ hh=>hh.elim q3 λhh=>by omega
 refine hk u h' (λb=>(F b\/h.size<=b)/\b<h'.size) ⟨λb hb=>⟨hb.1.elim (λhb=>(h1 b hb).1) λhb=>by omega,hb.2⟩,v::vs,?_,(hp.keep ku hn).mono hq,(h3.keep ku hn).mono hq⟩ ku
 rw[zCU,zAF,zA0,List.map_nil]
 exact BufE.re hu λb hb hF=>⟨hF,hb⟩
theorem zAdN {v:PV}{vs:List PV}:((v::vs).reverse.map zAbZ)[vs.length]? = some (zAbZ v):=by
 rw[zCU,zAF,zBe (by simp),zAd,zC2,Nat.sub_self];rfl
theorem Stk.top (s:Stk B h F (p::ps) t):∃ b o v,(∀ k,ixS 3 t (.int k (ps.length:Nat))=some (Ptr b o))/\Pt h b o (zAbZ v)/\zAb0 (Qf B F h) h p v /\
  ∀ (w:Value) (ks:List Nat),w.oneCell'=true->SlE 1 (Qf B F h) h w (zKC (zs ks))->∃ h',st1 h (Ptr b (o+2)) w=some h'/\Keep F h h'/\Stk B h' F (⟨p.ch,p.ws,ks⟩::ps) t/\Pt h' b o (zAbZ (v.1,v.2.1,w))/\zAb0 (Qf B F h') h' ⟨p.ch,p.ws,ks⟩ (v.1,v.2.1,w):=by
 obtain⟨h1,vs,h2,h3⟩:=s
 cases vs with
 | nil=>exact h3.elim
 | cons v vs =>
  have hvl:=h3.2.len
  obtain⟨b,o,hix,hpt,hF⟩:=h2.sl.at zAdN
  refine⟨b,o,v,λk=>by rw[<- hvl];exact hix k,hpt,h3.1,λw ks hw hs=>?_⟩
  obtain⟨b',o',h',hix',hpt',hst,hb',hk⟩:=h2.st (i:=vs.length) (j:=2) zAdN (by omega) hw
  have hpe:Ptr b o=Ptr b' o':=zAN ((hix .i64).symm.trans (hix' .i64))
  injection hpe with hpe
  injection hpe with hpe
  injection hpe with hpb hpo
  subst hpb hpo
  have hn:∀ b,Qf B F h b->¬ F b:=λb q=>q.2.2
  have hrow:((v::vs).reverse.map zAbZ).set vs.length ((zAbZ v).set 2 w)=(((v.1,v.2.1,w):PV)::vs).reverse.map zAbZ:=by
   rw[zCU,zAF,zCR _ _ (by simp),zAd,zC2,Nat.sub_self,zCU,zAF];rfl
  rw[hrow]at hb'
  have hnew:zAb0 (Qf B F h') h' ⟨p.ch,p.ws,ks⟩ (v.1,v.2.1,w):=⟨(h3.1.c.keep hk hn).mono (Qf.up hk.1),(h3.1.w.keep hk hn).mono (Qf.up hk.1),(hs.keep hk hn).mono (Qf.up hk.1)⟩
  refine⟨h',hst,hk,⟨λb hb=>⟨(h1 b hb).1,zAM (h1 b hb).2 hk.1⟩,_,hb',hnew,(h3.2.keep hk hn).mono (Qf.up hk.1)⟩,?_,hnew⟩
  obtain⟨b2,o2,hix2,hpt2,_⟩:=hb'.sl.at (zAdN (v:=(v.1,v.2.1,w)))
  have hpe:Ptr b o=Ptr b2 o2:=zAN ((hix .i64).symm.trans (hix2 .i64))
  injection hpe with hpe
  injection hpe with hpe
  injection hpe with hpb hpo
  subst hpb hpo
  exact hpt2
theorem _root_.Go.X.BufE.pre {n:Nat}{F:zA1}{H:zAx}{v:Value}{xs ys:List (List Value)}(h:BufE n F H v (xs++ys)):∃ u,slS n v none (some (.int .i64 (xs.length:Nat))) none=some u/\BufE n F H u xs:=by
 obtain⟨h1,h2,h|⟨b,o,c,cs,T,f,rfl,hf,hc,hb,hle,ht,hl⟩⟩:=h
 ·obtain⟨rfl,he⟩:=h
  obtain⟨rfl,rfl⟩:=List.append_eq_nil_iff.1 he
  exact⟨.slice none 0 0,rfl,BufE.nil⟩
 ·rw[zAt]at hc hl
  have hbn:zNp (xs.length+ys.length) c none (some (.int .i64 (xs.length:Nat))) none=some (0,xs.length,c):=by
   simp only[zNp,bnd,zAZ]
   rw[if_pos (by omega)];rfl
  have e1:∀ x∈xs,x.length=n:=λx hx=>h1 x (List.mem_append_left _ hx)
  refine⟨.slice (some ⟨b,if c=0 then o else o+0*n,none⟩) xs.length c,by simp[slS,hbn],e1,λx hx=>h2 x (List.mem_append_left _ hx),.inr ⟨b,_,c,cs,T,f,rfl,hf,by omega,hb,?_,ht,?_⟩⟩
  ·rw[Nat.zero_mul,zAu,ite_self];exact hle
  ·rw[Nat.zero_mul,zAu,ite_self]
   have:=congrArg (List.take (xs.length*n)) hl
   rw[zDf,zBN (zBq n (by omega)),zBr,zBj (by rw[zI1 e1];exact zAh _)]at this
   exact this.trans (zAr (by rw[zI1 e1];exact zAh _))
theorem Stk.pop (s:Stk B h F (p::ps) t):∃ u,slS 3 t none (some (.int .i64 (ps.length:Nat))) none=some u/\Stk B h F ps u:=by
 obtain⟨h1,vs,h2,h3⟩:=s
 cases vs with
 | nil=>exact h3.elim
 | cons v vs =>
  have hvl:=h3.2.len
  rw[zCU,zAF]at h2
  obtain⟨u,hu,hb⟩:=h2.pre
  rw[zAd,zC2,hvl]at hu
  exact⟨u,hu,h1,vs,hb,h3.2⟩
end
def zAny (hv:List Man)(p:Pnt)(n:Nat):Prop:=p.ch.length=n/\n<=40/\(∀ d∈p.ws,d.wf)/\p.ws.length<=64+1000*n/\p.ks.length<=40/\∀ k∈p.ks,zKg hv (p.ch++[k])
def zAly (hv:List Man):List Pnt->Prop
 | []=>True
 | p::ps=>zAny hv p ps.length/\zAly hv ps
structure Fw (hv:List Man)(bd:Nat)(G:Res->zA1)(H1:zAx)(ch:List Nat)(ws:List Dep)(ps:List Pnt)(s:Nat)(t2 t3 t6 t7:Value)(h:zAx)(F:zA1):Prop where
 k:Keep zAK H1 h
 st:Stk H1.size h F ps t7
 c:SlE 1 (Qf H1.size F h) h t2 (zKC (zs ch))
 w:SlE 6 (Qf H1.size F h) h t6 (ws.map zFp)
 t:t3 = .int .i64 (s:Nat)
 n:zKg hv ch
 len:ch.length=ps.length
 ww:∀ d∈ws,d.wf
 wl:ws.length<=64+1000*ch.length
 sp:zAly hv ps
 sb:s<=bd
 f:Fwd hv bd G ch ws ps s
structure Bk (hv:List Man)(bd:Nat)(G:Res->zA1)(H1:zAx)(ps:List Pnt)(s:Nat)(t3 t7:Value)(h:zAx)(F:zA1):Prop where
 k:Keep zAK H1 h
 st:Stk H1.size h F ps t7
 t:t3 = .int .i64 (s:Nat)
 sp:zAly hv ps
 sb:s<=bd
 f:Bck hv bd G ps s
theorem Fw.keep {hv:List Man}{bd:Nat}{G:Res->zA1}{H1:zAx}{ch:List Nat}{ws:List Dep}{ps:List Pnt}{s:Nat}{t2 t3 t6 t7:Value}{h h':zAx}{F:zA1}(f:Fw hv bd G H1 ch ws ps s t2 t3 t6 t7 h F)(k:Keep zAK h h'):Fw hv bd G H1 ch ws ps s t2 t3 t6 t7 h' F :=
 ⟨f.k.trans k,f.st.keep k,(f.c.keep k λ_ _=>id).mono (Qf.up k.1),(f.w.keep k λ_ _=>id).mono (Qf.up k.1),f.t,f.n,f.len,f.ww,f.wl,f.sp,f.sb,f.f⟩
theorem Bk.keep {hv:List Man}{bd:Nat}{G:Res->zA1}{H1:zAx}{ps:List Pnt}{s:Nat}{t3 t7:Value}{h h':zAx}{F:zA1}(f:Bk hv bd G H1 ps s t3 t7 h F)(k:Keep zAK h h'):Bk hv bd G H1 ps s t3 t7 h' F :=
 ⟨f.k.trans k,f.st.keep k,f.t,f.sp,f.sb,f.f⟩
theorem zAdO {a a' a'':Option Addr}{n c n' c' n'' c'':Nat}:zCM prg zFt [(0,.slice a n c),(1,.slice a' n' c'),(2,.slice a'' n'' c'')]=some (.agg #[.slice a n c,.slice a' n' c',.slice a'' n'' c'']):=by kernel_rfl
theorem zAdP {a a' a'':Option Addr}{n c n' c' n'' c'':Nat}:zF6 prg zFt 1 [(0,.agg #[.slice a n c,.slice a' n' c',.slice a'' n'' c''])]=some #[.slice a n c,.slice a' n' c',.slice a'' n'' c'']:=by kernel_rfl
theorem zAdQ {a a':Option Addr}{n c n' c':Nat}:zF6 prg zDp 2 [(0,.slice a n c),(1,.slice a' n' c')]=some #[.slice a n c,.slice a' n' c']:=by kernel_rfl
theorem _root_.Go.X.SlE.shape {n:Nat}{P:zA1}{H:zAx}{v:Value}{xs:List (List Value)}(h:SlE n P H v xs):∃ a c,v = .slice a xs.length c:=by
 obtain⟨⟨a,c,e,_⟩,_⟩:=h;exact⟨a,c,e⟩
theorem _root_.Go.X.SlE.rest {n:Nat}{P:zA1}{H:zAx}{v:Value}{x:List Value}{xs:List (List Value)}(h:SlE n P H v (x::xs)):∃ u,slS n v (some (.int .i64 1)) none none=some u/\SlE n P H u xs:=by
 obtain⟨u,h1,h2⟩:=h.cut (by simp) (lo:=1) (hi:=(x::xs).length) (by simp) (zAh _) (l:=some (.int .i64 1)) (r:=none) (by simp only[bnd];rw[if_pos (by simp;omega)];rfl) (λc hc=>rfl)
 rw[zBE]at h2
 exact⟨u,h1,h2⟩
def zAnz (hv:List Man)(wants:List Dep)(bd:Nat)(H H':zAx)(u:Value):Prop:=∃ (r:Res) (s:Nat),Run hv bd (.sol [] wants) 0 r s/\match r with
 | .ok l=>zKg hv l/\∃ v,u = .tuple #[v,.int .i64 (s:Nat),.int .i64 0]/\BufE 1 (λb=>H.size<=b/\b<H'.size) H' v (zKC (zs (zG8 hv l)))
 | .fail=>u = .tuple #[.slice none 0 0,.int .i64 (s:Nat),.int .i64 40]
 | .over=>u = .tuple #[.slice none 0 0,.int .i64 (s:Nat),.int .i64 42]
set_option maxHeartbeats 8000000 in
theorem zAiU {P:zA1}{H:zAx}{mv:List MV}{wants:List Dep}{vh vw:Value}{b:Int}(hp:Prb P H mv wants vh vw)(hP:∀ b,P b->b<H.size)(hok:zIV (zCi mv) wants b=true)(hl:mv.length<=40)(hwl:wants.length<=64)(hO:zQW H) :
  zAA prg zMe [.agg (zN0 vh vw b).toArray] H λu H'=>zAnz (zCi mv) wants b.toNat H H' u/\Keep zAK H H':=by
 apply zL5
 unfold zNO
 simp only[zB8,zBb]
 generalize hH1:H.push (.cells (zN0 vh vw b).toArray zB3 (0,0))=H1
 have k1:Keep zAK H H1:=by rw[<- hH1];exact Keep.push
 have a1:At H1 H.size (zN0 vh vw b):=by rw[<- hH1];exact At.push
 have s1:H1.size=H.size+1:=by rw[<- hH1];simp
 have dA:∀ h,Keep zAK H1 h->ldN 3 h (Ptr H.size 0)=some (.agg (zN0 vh vw b).toArray):=λh k=>(a1.keep k id).ldN rfl
 have d0:∀ h,Keep zAK H1 h->ld1 h (Ptr H.size 0)=some vh:=λh k=>(a1.keep k id).ld rfl
 have d1:∀ h,Keep zAK H1 h->ld1 h (Ptr H.size 1)=some vw:=λh k=>(a1.keep k id).ld rfl
 have d2:∀ h,Keep zAK H1 h->ld1 h (Ptr H.size 2)=some (.int .i64 b):=λh k=>(a1.keep k id).ld rfl
 have hpk:∀ h,Keep zAK H1 h->Prb P h mv wants vh vw:=λh k=>hp.keep (k1.trans k) λ_ _=>id
 have hPk:∀ h,Keep zAK H1 h->∀ b,P b->b<h.size:=λh k b hb=>zAM (hP b hb) (k1.trans k).1
 have hOk:∀ h,Keep zAK H1 h->zQW h:=λh k=>hO.keep (k1.trans k) λ_ h=>h.elim
 have hvl:(zCi mv).length=mv.length:=by simp
 have hb0:0<=b/\b<=65536:=by
  unfold zIV at hok
  simp only[zAk,decide_eq_true_eq]at hok
  exact hok.1.1
 have hrng:(List.range (zCi mv).length).all (zP5 (zCi mv))=true:=by
  unfold zIV at hok
  simp only[zAk]at hok
  exact hok.1.2
 obtain⟨hb0,hb1⟩:=hb0
 have hbN:b=((b.toNat:Nat):Int):=by omega
 generalize hbd:b.toNat=bd at *
 have hbd1:bd<=65536:=by omega
 rw[dA _ Keep.refl,zAa]
 refine zAI (zAdr (hpk _ Keep.refl) (by omega) hwl (hOk _ Keep.refl)) ?_
 rintro _ h2 ⟨rfl,k2⟩
 rw[hok,if_pos rfl]
 have en:zAB .no .neq (.int .i64 0) (.int .i64 0)=some (.bool false):=rfl
 rw[en,zAa,zAl,if_neg (by decide)]
 simp only[zBf,zAi,zAu,zAa]
 rw[d1 _ k2,zAa]
 refine zAI (zSV (hpk _ k2).w (by omega)) ?_
 rintro t21 h3 ⟨hb21,k3⟩
 have k13:=k2.trans k3
 have g12:=k2.1
 let G:Res->zA1:=λR S=>Run (zCi mv) bd (.sol [] wants) 0 R S
 refine L4_i (λt2 t3 t6 t7 h=>∃ ch ws ps s F,Fw (zCi mv) bd G H1 ch ws ps s t2 t3 t6 t7 h F) (λ_ t3 _ _ _=>match t3 with | .int _ t=>bd-t.toNat|_=>0)
  ⟨[],wants,[],0,λ_=>False,k13,Stk.nil,SlE.nil,hb21.sl.mono λb hb=>⟨by omega,hb.2,id⟩,rfl,zKg.nil,rfl,hp.ww,by simpa using hwl,trivial,zAz _,Fwd.start⟩ ?_
 rintro t2 t3 t6 t7 h ⟨ch,ws,ps,s,F,hf⟩ kF hkF
 obtain rfl:=hf.t
 have hchl:ch.length<=40:=by have:=hf.n.len;omega
 refine J3_i (λu6 u7 u8 g=>(u8 = .bool false/\∃ F,Fw (zCi mv) bd G H1 ch [] ps s t2 (.int .i64 (s:Nat)) u6 u7 g F)\/(u8 = .bool true/\∃ ps' F,Bk (zCi mv) bd G H1 ps' s (.int .i64 (s:Nat)) u7 g F)) (λk6 hk6=>?_) ?_
 ·refine zAlK (λu6 u7 u8 g=>u8 = .bool false/\∃ ws F,Fw (zCi mv) bd G H1 ch ws ps s t2 (.int .i64 (s:Nat)) u6 u7 g F) (λu6 _ _ _=>match u6 with | .slice _ n _=>n|_=>0) ⟨rfl,ws,F,hf⟩ ?_
  clear hf
  rintro u6 u7 _ g ⟨rfl,ws,F,hf⟩ k8 hk8
  have lw:=hf.w.len
  rw[zAd]at lw
  rw[lw,zAa,show zAB .no .gtr (.int .i64 (ws.length:Nat)) (.int .i64 0)=some (.bool (decide (ws.length > 0))) from zAbu (m:=0),zAa,zAl]
  cases ws with
  | nil =>
   rw[if_neg (by decide)]
   exact hk6 _ _ _ _ (.inl ⟨rfl,F,hf⟩)
  | cons d ws =>
   rw[if_pos (by simp)]
   have hdw:d.wf:=hf.ww d (by simp)
   have gg:=hf.k.1
   obtain⟨bw,ow,hixw,hptw,_⟩:=hf.w.at (i:=0) (x:=zFp d) rfl
   rw[show(Value.int .i64 0) = .int .i64 ((0:Nat):Int) from rfl,hixw .i64,zAa,hptw.agg (zEh hdw),zAa]
   simp only[zAay,zBb]
   generalize hH9:g.push (.cells (zFp zQL).toArray zAL (0,0))=h9
   have k9:Keep zAK g h9:=by rw[<- hH9];exact Keep.push
   have a9:At h9 g.size (zFp zQL):=by rw[<- hH9];exact At.push
   obtain⟨h11,st11,a11,k11⟩:=a9.st (n:=6) (ds:=zFp d) (zEh zQp) (zEh hdw) (zLc)
   have kg:Keep zAK g h11:=k9.fresh k11 λb hb=>by omega
   rw[st11,zAW]
   have f11:=hf.keep kg
   rw[dA _ f11.k,zAa]
   simp only[zBf,zAi,zAu,zAa]
   rw[zAdn a11,zAa]
   refine zAI (zAnw (hpk _ f11.k) f11.c f11.n.1 (by omega)) ?_
   rintro _ h12 ⟨rfl,k12⟩
   have f12:=f11.keep k12
   have a12:=a11.keep k12 id
   cases hof:ofF (zCi mv) ch d.name with
   | none =>
    simp only[zSC]
    rw[show(#[Value.int .i64 0,.bool false][0]?)=some (.int .i64 0) from rfl,zAa,show(#[Value.int .i64 0,.bool false][1]?)=some (.bool false) from rfl,zAa,zA7,zAa,zAl,if_pos (by rfl)]
    obtain⟨t42,e42,hw42⟩:=f12.w.rest
    rw[e42,zAa,dA _ f12.k,zAa,a12.ldN (zEh hdw),zAa]
    refine zAI (zAdB (hpk _ f12.k) (hPk _ f12.k) hdw (by omega) (hOk _ f12.k) (zAbz hrng (by omega))) ?_
    rintro t45 h13 ⟨hb45,k13'⟩
    have f13:=f12.keep k13'
    have hw42':=(hw42.keep k13' λ_ _=>id).mono (Qf.up k13'.1)
    have hF12:=f12.st.1
    have gk:=f12.k.1
    have hpv:zAb0 (Qf H1.size F h13) h13 ⟨ch,ws,zP3 (zCi mv) d⟩ (t2,t42,t45):=⟨f13.c,hw42',hb45.sl.mono λb hb=>⟨by omega,hb.2,λhh=>by have:=(hF12 b hh).2;omega⟩⟩
    obtain⟨p1,c1,e1⟩:=f13.c.shape
    obtain⟨p2,c2,e2⟩:=hw42'.shape
    obtain⟨p3,c3,e3⟩:=hb45.sl.shape
    have eb:zCM prg zFt [(0,t2),(1,t42),(2,t45)]=some (.agg #[t2,t42,t45]):=by rw[e1,e2,e3];exact zAdO
    have es:zF6 prg zFt 1 [(0,.agg #[t2,t42,t45])]=some #[t2,t42,t45]:=by rw[e1,e2,e3];exact zAdP
    rw[eb,zAa,es,zCo]
    generalize hH14:h13.push (.cells #[t2,t42,t45] zFt (0,0))=h14
    have k14:Keep zAK h13 h14:=by rw[<- hH14];exact Keep.push
    have hx14:SlE 3 (· = h13.size) h14 (.slice (some ⟨h13.size,0,none⟩) 1 1) [zAbZ (t2,t42,t45)] :=
     ⟨⟨_,1,rfl,zAh _,.inr ⟨h13.size,0,rfl,rfl,by rw[<- hH14];exact Pt.of zCj⟩⟩,by simp[zAbZ],by
      intro x hx c hc
      simp only[zAD]at hx
      subst hx
      simp only[zAbZ,zAs,zCL,or_false]at hc
      rcases hc with rfl|rfl|rfl
      ·rw[e1];rfl
      ·rw[e2];rfl
      ·rw[e3];rfl⟩
    have f14:=f13.keep k14
    have hlen:=f14.len
    have g14:=f14.k.1
    refine f14.st.push ((hpv.keep k14 λ_ _=>id).mono (Qf.up k14.1)) g14 (by omega) hx14 λu h15 F' hs15 k15=>?_
    refine hk6 _ _ _ _ (.inr ⟨rfl,_,F',f14.k.fresh k15 λb hb=>hb.elim (λhb=>(f14.st.1 b hb).1) λhb=>by omega,hs15,rfl,⟨⟨f14.len,by show ps.length<=40;omega,λx hx=>f14.ww x (by simp[hx]),?_,?_,λk hk=>f14.n.add hof hk⟩,f14.sp⟩,f14.sb,f14.f.push hof⟩)
    ·have:=f14.wl
     rw[zAS]at this
     show ws.length<=64+1000*ps.length
     omega
    ·have:=zAfF (hv:=zCi mv) (d:=d)
     show(zP3 (zCi mv) d).length<=40
     omega
   | some k =>
    obtain⟨hkm,hkn⟩:=zAdg hof
    have hkl:=f12.n.1 k hkm
    simp only[zSC]
    rw[show(#[Value.int .i64 (k:Nat),.bool true][0]?)=some (.int .i64 (k:Nat)) from rfl,zAa,show(#[Value.int .i64 (k:Nat),.bool true][1]?)=some (.bool true) from rfl,zAa,zA7,zAa,zAl,if_neg (by decide)]
    obtain⟨x,hx,hgx,hxm,hmx,bx,ox,hix,hpx,_⟩:=(hpk _ f12.k).at hkl
    try simp only[zBf,zAi,zAu,zAa]
    rw[zWI a12 hdw,zAa,d0 _ f12.k,zAa,hix .i64,zAa,zBf,zAa,zXY hpx hmx.wf,zAa]
    refine zAI (zSQ hdw.want hmx.wf.ver (hOk _ f12.k)) ?_
    rintro _ h16 ⟨rfl,k16⟩
    have f16:=f12.keep k16
    have hfm:zQs d (gM (zCi mv) k)=(zH6 d.want&&zG5 x.1.ver&&zYZ d.want.op d.want.ver x.1.ver):=by
     unfold zQs;rw[decide_eq_true hkn,hgx];rfl
    rw[zA7,zAa,zAl]
    cases hfv:(zH6 d.want&&zG5 x.1.ver&&zYZ d.want.op d.want.ver x.1.ver)
    ·rw[if_pos (by rfl)]
     exact hk6 _ _ _ _ (.inr ⟨rfl,ps,F,f16.k,f16.st,rfl,f16.sp,f16.sb,f16.f.no hof (by rw[hfm,hfv])⟩)
    ·rw[if_neg (by decide)]
     obtain⟨t61,e61,hw61⟩:=f16.w.rest
     rw[e61,zAa]
     refine hk8 _ _ _ _ ⟨rfl,ws,F,f16.k,f16.st,f16.c,hw61,rfl,f16.n,f16.len,λy hy=>f16.ww y (by simp[hy]),?_,f16.sp,f16.sb,f16.f.has hof (by rw[hfm,hfv])⟩ ?_
     ·have:=f16.wl
      rw[zAS]at this
      omega
     ·obtain⟨pa,ca,ea⟩:=hw61.shape
      obtain⟨pb,cb,eb⟩:=hf.w.shape
      rw[ea,eb]
      simp
 clear hf
 rintro u6 u7 _ g (⟨rfl,F,hf⟩|⟨rfl,ps0,F0,hb⟩)
 ·rw[zA7,zAa,zAl,if_pos (by rfl),dA _ hf.k,zAa]
  refine zAI (zAdz (hpk _ hf.k) (hPk _ hf.k) hf.c hf.n.1 (by omega) (zX8 hf.n (by omega))) ?_
  rintro v h17 ⟨hv,k17⟩
  have gk:=hf.k.1
  refine⟨⟨.ok ch,s,hf.f.done,hf.n,v,rfl,BufE.re hv λb hb hF=>⟨by omega,hF.2⟩⟩,(k1.trans hf.k).trans k17⟩
 rw[zA7,zAa,zAl,if_neg (by decide)]
 refine J4_i (λ_ v3 _ _ h'=>∃ s,v3 = .int .i64 (s:Nat)/\G .fail s/\Keep zAK H1 h') (λk18 hk18=>?_) ?_
 rotate_left
 ·rintro v2 _ v6 v7 h' ⟨s',rfl,hG,kh⟩
  exact⟨⟨.fail,s',hG,rfl⟩,k1.trans kh⟩
 refine L4_i (λv2 v3 v6 v7 h'=>∃ ps s' F,s<=s'/\Bk (zCi mv) bd G H1 ps s' v3 v7 h' F) (λ_ v3 _ v7 _=>(match v3 with | .int _ t=>bd-t.toNat|_=>0)+(match v7 with | .slice _ n _=>n|_=>0)) ⟨ps0,s,F0,zAh _,hb⟩ ?_
 clear hb
 rintro v2 v3 v6 v7 g ⟨ps,s',F,hss,hb⟩ k20 hk20
 obtain rfl:=hb.t
 rw[hb.st.len,zAa,show zAB .no .gtr (.int .i64 (ps.length:Nat)) (.int .i64 0)=some (.bool (decide (ps.length > 0))) from zAbu (m:=0),zAa,zAl]
 cases ps with
 | nil =>
  rw[if_neg (by decide)]
  exact hk18 _ _ _ _ _ ⟨s',rfl,hb.f.fail,hb.k⟩
 | cons p ps =>
  rw[if_pos (by simp)]
  obtain⟨q1,q2,q3,q4,q5,q6⟩:=hb.sp.1
  obtain⟨bp,op,v,hixp,hptp,hpv,hset⟩:=hb.st.top
  have hsub:zAB .no .sub (.int .i64 ((p::ps).length:Nat)) (.int .i64 1)=some (.int .i64 (ps.length:Nat)):=zX0 (by omega)
  have ld2:ld1 g (Ptr bp (op+2))=some v.2.2:=hptp.cell (i:=2) rfl
  have ll:=hpv.l.len
  rw[zNC,zQY]at ll
  rw[zAa,hsub,zAa,hixp .i64,zAa]
  simp only[zHX,zBf,zAu,zAa]
  rw[ld2,zAa,ll,zAa,show zAB .no .eql (.int .i64 (p.ks.length:Nat)) (.int .i64 0)=some (.bool (decide (p.ks.length=0))) from zAjz (m:=0),zAa,zAl]
  obtain⟨ch',ws',ks⟩:=p
  have q4':ws'.length<=64+1000*ps.length:=q4
  have q1':ch'.length=ps.length:=q1
  have hl':ch'.length<=40:=by omega
  obtain⟨pa,ca,ea⟩:=hb.st.shape
  cases ks with
  | nil =>
   rw[if_pos (by simp),show zAB .no .sub (.int .i64 ((⟨ch',ws',[]⟩::ps:List Pnt).length:Nat)) (.int .i64 1)=some (.int .i64 (ps.length:Nat)) from hsub,zAa]
   obtain⟨u,hu,hsu⟩:=hb.st.pop
   rw[hu,zAa]
   refine hk20 _ _ _ _ _ ⟨ps,s',F,hss,hb.k,hsu,rfl,hb.sp.2,hb.sb,hb.f.pop⟩ ?_
   obtain⟨pb,cb,eb⟩:=hsu.shape
   rw[ea,eb]
   simp
  | cons k ks =>
   rw[if_neg (by simp),d2 _ hb.k,zAa,hbN,zAjz,zAa,zAl]
   by_cases hsb:s'=bd
   ·rw[if_pos (by simpa using hsb)]
    subst hsb
    exact⟨⟨.over,s',hb.f.over,rfl⟩,k1.trans hb.k⟩
   rw[if_neg (by simpa using hsb)]
   have hlt:s'<bd:=by have:=hb.sb;omega
   obtain⟨bk,ok,hixk,hptk,_⟩:=hpv.l.at (i:=0) (x:=[.int .i64 (k:Int)]) rfl
   obtain⟨w,ew,hw⟩:=SlE.rest (x:=[.int .i64 (k:Int)]) (xs:=zKC (zs ks)) hpv.l
   obtain⟨pw,cw,ew1⟩:=hw.shape
   obtain⟨h22,st22,k22,hs22,hpt22,hpv22⟩:=hset w ks (by rw[ew1];rfl) hw
   have hN:=q6 k (by simp)
   have hkl:k<(zCi mv).length:=hN.1 k (by simp)
   have kk22:Keep zAK H1 h22:=hb.k.fresh k22 λb hb'=>(hb.st.1 b hb').1
   rw[zAa,show(Value.int .i64 0) = .int .i64 ((0:Nat):Int) from rfl,hixk .i64,zAa,hptk.cell0 rfl,zAa,zAa,ew,zAa,st22,zAW]
   rw[zBV (by omega),zAa,dA _ kk22,zAa,show ld1 h22 (Ptr bp op)=some v.1 from hpt22.cell0 rfl,zAa]
   have hc22:SlE 1 (Qf H1.size F h22) h22 v.1 (zKC (zs ch')):=hpv22.c
   refine zAI (zAiN (hpk _ kk22) hc22 (λj hj=>hN.1 j (by simp[hj])) hkl (by omega) (hOk _ kk22)) ?_
   rintro _ h23 ⟨rfl,k23⟩
   have kk23:=kk22.trans k23
   have sp':zAly (zCi mv) (⟨ch',ws',ks⟩::ps):=⟨⟨q1,q2,q3,q4,by rw[zAS]at q5;show ks.length<=40;omega,λj hj=>q6 j (by simp[hj])⟩,hb.sp.2⟩
   have hs23:=hs22.keep k23
   rw[zAl]
   cases hcl:zP2 (zCi mv) ch' k
   rotate_left
   ·rw[if_pos rfl]
    refine hk20 _ _ _ _ _ ⟨_,s'+1,F,by omega,kk23,hs23,rfl,sp',hlt,hb.f.clash hsb hcl⟩ ?_
    show bd-(s'+1)+_<bd-s'+_
    omega
   rw[if_neg (by decide)]
   have hpt23:=hpt22.keep k23 id
   rw[show ld1 h23 (Ptr bp op)=some v.1 from hpt23.cell0 rfl,zAa]
   refine zAI (zVI (hc22.keep k23 λ_ _=>id) (by rw[zQY];omega)) ?_
   rintro t119 h24 ⟨hb24,k24⟩
   have kk24:=kk23.trans k24
   rw[zAg4,zCo]
   generalize hH25:h24.push (.cells #[.int .i64 (k:Nat)] zIC (0,0))=h25
   have k25:Keep zAK h24 h25:=by rw[<- hH25];exact Keep.push
   have hx25:SlE 1 (· = h24.size) h25 (.slice (some ⟨h24.size,0,none⟩) 1 1) (zKC [(k:Int)]) :=
    ⟨⟨_,1,rfl,zAh _,.inr ⟨h24.size,0,rfl,rfl,by rw[zMw,<- hH25];exact Pt.of zCj⟩⟩,zQi,zPH λv hv=>by simp at hv;subst hv;rfl⟩
   have g23:=k23.1
   have g24:=k24.1
   have g25:=k25.1
   refine((hb24.keep k25 λ_ _=>id).mono (G:=λb=>h23.size<=b) λb hb=>hb.1).app hx25 (by omega) (by rw[zNC,zNC,zQY];simp;omega) (by show h23.size<=h25.size;omega) λt122 h26 ht k26=>?_
   have k236:Keep zAK h23 h26:=(k24.trans k25).fresh k26 λb hb=>hb
   have kk26:=kk23.trans k236
   have hpt26:=hpt23.keep k236 id
   obtain⟨x,hx,hgx,hxm,hmx,bx,ox,hix,hpx,_⟩:=(hpk _ kk26).at hkl
   rw[show ld1 h26 (Ptr bp (op+1))=some v.2.1 from hpt26.cell (i:=1) rfl,zAa,d0 _ kk26,zAa,hix .i64,zAa,zBf,zAa,show ld1 h26 (Ptr bx (ox+5))=some x.2.1 from hpx.cell (i:=5) (by simp[mvC,zGN,zDH hmx.wf.ver,zBe]),zAa]
   have hw26:SlE 6 (Qf H1.size F h22) h26 v.2.1 (ws'.map zFp):=(hpv22.w.keep k23 λ_ _=>id).keep k236 λ_ _=>id
   obtain⟨p1,c1,e1⟩:=hw26.shape
   obtain⟨p2,c2,e2⟩:=hmx.d.shape
   have eb:zF6 prg zDp 2 [(0,v.2.1),(1,x.2.1)]=some #[v.2.1,x.2.1]:=by rw[e1,e2];exact zAdQ
   rw[eb,zCo]
   generalize hH27:h26.push (.cells #[v.2.1,x.2.1] zDp (0,0))=h27
   have k27:Keep zAK h26 h27:=by rw[<- hH27];exact Keep.push
   have a27:At h27 h26.size [v.2.1,x.2.1]:=by rw[<- hH27];exact At.push
   have hdl:=(hp.sm x hxm).1
   refine zAI (zZf a27 (hw26.keep k27 λ_ _=>id) (hmx.d.keep k27 λ_ _=>id) (by show ws'.length+_<=_;omega)) ?_
   rintro t134 h28 ⟨hb28,k28⟩
   have g26:=k26.1
   have g27:=k27.1
   have g28:=k28.1
   have k268:=k27.trans k28
   have kk28:=kk26.trans k268
   have gk:=hb.k.1
   have g22:=k22.1
   have hF22:=hs22.1
   refine hkF _ _ _ _ _ ⟨ch'++[k],ws'++(gM (zCi mv) k).deps,⟨ch',ws',ks⟩::ps,s'+1,F,kk28,(hs23.keep k236).keep k268,?_,?_,rfl,hN,by simp;exact q1,λd hd=>?_,?_,sp',hlt,hb.f.down hsb hcl⟩ ?_
   ·have e:zKC (zs (ch'++[k]))=zKC (zs ch')++zKC [(k:Int)]:=by simp[zs,zHL]
    rw[e]
    exact((BufE.re (G:=λb=>h23.size<=b/\b<h26.size) ht λb hb hF=>⟨hF,hb⟩).sl.keep k268 λ_ _=>id).mono λb hb=>⟨by omega,by omega,λhh=>by have:=(hF22 b hh).2;omega⟩
   ·rw[hgx]
    exact hb28.sl.mono λb hb=>⟨by omega,hb.2,λhh=>by have:=(hF22 b hh).2;omega⟩
   ·rcases zAp.1 hd with hd|hd
    ·exact q3 d hd
    ·rw[hgx]at hd;exact hmx.wf.deps d hd
   ·rw[hgx]
    simp only[zAt,zAS,List.length_nil]
    omega
   ·show bd-(s'+1)<bd-s
    omega
open Go.MapKept
theorem zAkN:zAlv prg zDi .string (str []):=⟨zBJ,zBJ,by kernel_rfl,by kernel_rfl,λw=>by rfl⟩
def zAaC (h:zAx)(q:Nat)(l:List (List UInt8×List UInt8)):Prop:=zOS h q (l.map λe=>(str e.1,str e.2))
theorem zAaC.keep {H H':zAx}{q:Nat}{l:List (List UInt8×List UInt8)}{S:zA1}(h:zAaC H q l)(k:Keep S H H')(hs:¬ S q):zAaC H' q l:=zOS.keep h k hs
theorem zX9 {l:List (List UInt8×List UInt8)}:∀ x∈l.map (λe=>(str e.1,str e.2)),IsKey .string x.1:=λx hx=>by
 obtain⟨e,_,rfl⟩:=zAo.1 hx
 exact trivial
theorem zSZ {a b:List UInt8}(h:str a=str b):a=b:=by
 have h1:(⟨a.toArray⟩:ByteArray)=⟨b.toArray⟩:=by injection h
 have h2:a.toArray=b.toArray:=by injection h1
 simpa using congrArg Array.toList h2
def zAb1 (l:List (List UInt8×List UInt8))(n:List UInt8):Option (List UInt8):=(l.find? λe=>decide (e.1=n)).map (·.2)
theorem zAg9 {l:List (List UInt8×List UInt8)}(hn:(l.map (·.1)).Nodup){n v:List UInt8}(h:(n,v)∈l):zAb1 l n=some v:=by
 unfold zAb1
 induction l with
 | nil=>cases h
 | cons e l ih =>
  rw[zA0,zCP]at hn
  rw[zC6]
  rcases zAs.1 h with rfl|h
  ·simp
  ·have hne:e.1≠n:=λe1=>hn.1 (by rw[e1];exact zAo.2 ⟨_,h,rfl⟩)
   rw[decide_eq_false hne]
   exact ih hn.2 h
theorem zAiV {l:List (List UInt8×List UInt8)}{n:List UInt8}(h:∀ e∈l,e.1≠n):zAb1 l n=none:=by
 unfold zAb1
 rw[zCq.2 λe he=>by simpa using h e he];rfl
theorem zYa {H:zAx}{q:Nat}{l:List (List UInt8×List UInt8)}{n:List UInt8}{ok:Bool}{k:zAm}(h:zAaC H q l)(hn:(l.map (·.1)).Nodup)(hk:k (zAiI ok (str ((zAb1 l n).getD [])) (zAb1 l n).isSome) H):zQx prg (Instr.lookup zDi (.map (some q)) (str n) ok) H k:=by
 refine zAav zAkN h zX9 trivial (λv hv=>?_) λhno=>?_
 ·obtain⟨e,he,hev⟩:=zAo.1 hv
  injection hev with h1 h2
  obtain rfl:=zSZ h1
  rw[zAg9 hn (v:=e.2) he]at hk
  rw[<- h2];exact hk
 ·rw[zAiV (l:=l) (n:=n) λe he e1=>hno _ (zAo.2 ⟨e,he,rfl⟩) (by rw[e1])]at hk
  exact hk
theorem zAfR {H:zAx}{q:Nat}{l:List (List UInt8×List UInt8)}{n v:List UInt8}{k:zAm}(h:zAaC H q l)(hno:∀ e∈l,e.1≠n)(hk:∀ H',zAaC H' q (l++[(n,v)])->Keep (· = q) H H'->k undef H'):Msu prg (Instr.mapUpdate zDi (.map (some q)) (str n) (str v)) H k:=by
 refine zAaw zAkN h zX9 trivial (λj w H' hj hm kk=>?_) λH' _ hm kk=>?_
 ·obtain⟨e,he,hev⟩:=zAo.1 (zAC hj)
  injection hev with h1 h2
  exact absurd (zSZ h1) (hno e he)
 ·refine hk H' ?_ kk
  show zOS H' q _
  rw[zAF];exact hm
def zU6 (a b:List UInt8):Bool:=zOq a b || zOq b a
abbrev zTr:=List (List UInt8×List UInt8)
def zPa (of:zTr)(m:Man):Bool:=m.files.any λf=>of.any λt=>!decide (t.2=m.name)&&zU6 f.name t.1
def zAev (of:zTr)(m:Man):zTr:=of++m.files.map λf=>(f.name,m.name)
def zHG (ps:List (List UInt8))(of:zTr)(m:Man):Int :=
 if !zEC m then 10 else if m.name∈ps then 44 else if zPa of m then 41 else 0
def zW2:List (List UInt8)->zTr->List Man->Int
 | _,_,[]=>0
 | ps,of,m::l=>if zHG ps of m=0 then zW2 (ps++[m.name]) (zAev of m) l else zHG ps of m
structure OwnI (ps:List (List UInt8))(of:zTr):Prop where
 nd:(of.map (·.1)).Nodup
 mem:∀ t∈of,t.2∈ps
theorem zZl {a:List UInt8}:zOq a a=true:=by unfold zOq;simp
theorem zAbA {a:List UInt8}:zU6 a a=true:=by unfold zU6;rw[zZl];rfl
theorem zAaD {ps:List (List UInt8)}{of:zTr}{m:Man}(h:zHG ps of m=0):zEC m=true/\m.name∉ps/\zPa of m=false:=by
 unfold zHG at h
 cases h1:zEC m
 ·rw[h1]at h;simp at h
 ·rw[h1]at h
  by_cases h2:m.name∈ps
  ·rw[if_pos h2]at h;simp at h
  ·rw[if_neg h2]at h
   cases h3:zPa of m
   ·exact⟨rfl,h2,rfl⟩
   ·rw[h3]at h;simp at h
theorem zAdR {ps:List (List UInt8)}{of:zTr}{m:Man}(hI:OwnI ps of)(hn:m.name∉ps)(hc:zPa of m=false):∀ f∈m.files,f.name∉of.map (·.1):=by
 intro f hf hm
 obtain⟨t,ht,e⟩:=zAo.1 hm
 unfold zPa at hc
 have h1:(of.any λt=>!decide (t.2=m.name)&&zU6 f.name t.1)=false:=Bool.eq_false_iff.2 (zCu.1 hc f hf)
 have h2:=zCu.1 h1 t ht
 rw[e,zAbA,Bool.and_true]at h2
 have:t.2=m.name:=by simpa using h2
 exact hn (this ▸ hI.mem t ht)
end Go.Proofs.YticdfkoncnnmmaaGreatDoor
