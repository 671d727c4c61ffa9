import Derived.Test.YticdfkoncnnmmaaGreatDoorGI
import Derived.Test.YticdfkoncnnmmaaGreatDoorGO
import Derived.Test.YticdfkoncnnmmaaGreatDoorG1
set_option linter.unusedSimpArgs false
set_option linter.unusedVariables false
set_option maxRecDepth 100000
namespace Go.Proofs.YticdfkoncnnmmaaGreatDoor
open Go.X
theorem zPb:∀ n u:Nat,(zJH n u).length=n
 | 0,_=>rfl
 | n+1,u=>by rw[zJH,zAy,zPb n];rfl
theorem zTZ:∀ (n u i:Nat),i<n->(zJH n u)[i]? = some (zDq (u / 10 ^ (n-1-i) % 10))
 | 0,_,_,h=>by omega
 | n+1,u,i,h=>by
  rw[zJH]
  by_cases hi:i<n
  ·rw[List.getElem?_append_left (by rw[zPb];exact hi),zTZ n (u / 10) i hi]
   congr 2
   rw[Nat.div_div_eq_div_mul,show n+1-1-i=(n-1-i)+1 by omega,Nat.pow_succ,Nat.mul_comm]
  ·obtain rfl:i=n:=by omega
   rw[zA6 (by rw[zPb];omega),zPb]
   simp
structure F10 (q u nd:Nat)(H0:zAw)(i:Nat)(h:zAw):Prop where
 ex:∃ (cs:List Value) (T:TypeId),h[q]? = some (.cells cs.toArray T (0,0))/\cs.length=24/\(cs.drop (1+i)).take (nd-i)=zBG ((zJH nd u).drop i)
 le:i<=nd
 k:Keep (· = q) H0 h
theorem F10.put {q u nd i:Nat}{H0 h:zAw}(hI:F10 q u nd H0 (i+1) h)(hn:nd<=20){d:UInt8}(hd:d=zDq (u / 10 ^ (nd-1-i) % 10)) :
  ∃ h',st1 h (Ptr q (1+i)) (.int .u8 d.toNat)=some h'/\F10 q u nd H0 i h':=by
 obtain⟨cs,T,hq,hl,hc⟩:=hI.ex
 have hle:=hI.le
 refine⟨_,zJn hq d (by omega),⟨cs.set (1+i) (.int .u8 d.toNat),T,zBh hq,by simpa using hl,?_⟩,by omega,hI.k.trans (Keep.set rfl)⟩
 have hp:=zTZ nd u i (by omega)
 rw[<- hd]at hp
 have e1:(zJH nd u).drop i=d::(zJH nd u).drop (i+1):=by
  obtain⟨hlt,he⟩:=zAP.1 hp
  rw[zBL hlt,he]
 have e2:(cs.set (1+i) (.int .u8 d.toNat)).drop (1+i) = .int .u8 d.toNat::cs.drop (1+(i+1)):=by
  have hlt:1+i<(cs.set (1+i) (Value.int .u8 d.toNat)).length:=by rw[List.length_set];omega
  rw[zBL hlt,List.getElem_set_self,List.drop_set_of_lt (by omega)]
  rfl
 rw[e1,e2,show nd-i=(nd-(i+1))+1 by omega,zB0,hc,zPM]
theorem r8 {x:Nat}:zAB .no .rem (.int .u64 (x:Nat)) (.int .u64 100000000)=some (.int .u64 ((x % 100000000:Nat):Int)):=by
 rw[zAG];simp only[zC9];rw[if_neg (by decide),Int.tmod_eq_emod_of_nonneg (by omega)];rfl
theorem q8 {x:Nat}(h:x<18446744073709551616):zAB .no .quo (.int .u64 (x:Nat)) (.int .u64 100000000)=some (.int .u64 ((x / 100000000:Nat):Int)):=by
 rw[zAG];simp only[zC9];rw[if_neg (by decide),zCF (by omega),zX2 (by omega) (by omega)];rfl
open Go.X.Diff
theorem zAdA {n i:Nat}{xs:List (List Value)}{x:List Value}(h:∀ x∈xs,x.length=n)(hi:i<xs.length):(xs.set i x).flatten=xs.flatten.take (i*n)++x++xs.flatten.drop ((i+1)*n):=by
 rw[List.set_eq_take_append_cons_drop,if_pos hi,zBz,zBv,zSG h,zSF h,zBi]
theorem _root_.Go.X.BufE.set {n:Nat}{F:zAY}{H:zAw}{v:Value}{xs:List (List Value)}(h:BufE n F H v xs){i:Nat}(hi:i<xs.length){x:List Value}(hx:x.length=n)(h1:∀ c∈x,c.oneCell'=true) :
  ∃ p H',(∀ k,ixS n v (.int k i)=some p)/\stN n H p (.agg x.toArray)=some H'/\BufE n F H' v (xs.set i x)/\Keep F H H':=by
 obtain⟨g1,g2,h|⟨b,o,c,cs,T,f,rfl,hf,hc,hb,hle,ht,hl⟩⟩:=h
 ·obtain⟨rfl,rfl⟩:=h;simp at hi
 ·have hn1:i*n+n=(i+1)*n:=by rw[Nat.succ_mul]
  have hn2:(i+1)*n<=xs.length*n:=zBB n hi
  have hn3:xs.length*n<=c*n:=zBB n hc
  have hsz:o+i*n+x.toArray.size<=cs.size:=by simp only[zCg,hx];omega
  refine⟨Ptr b (o+i*n),_,λk=>?_,by simp only[stN];rw[if_pos (by simpa using hx)];exact zPt hb _ _ (ht _ _) hsz (zTS h1),⟨?_,?_,.inr ⟨b,o,c,_,T,f,by simp,hf,by simpa using hc,zBh hb,?_,ht,?_⟩⟩,Keep.set hf⟩
  ·simp only[ixS];rw[if_pos ⟨by omega,by omega⟩];rfl
  ·intro y hy
   rcases List.mem_or_eq_of_mem_set hy with hy|rfl
   ·exact g1 y hy
   ·exact hx
  ·intro y hy
   rcases List.mem_or_eq_of_mem_set hy with hy|rfl
   ·exact g2 y hy
   ·exact h1
  ·rw[zMp hsz];exact hle
  ·rw[List.length_set,zAdA g1 hi,<- hl]
   unfold spl
   have hlo:o+i*n<=cs.toList.length:=by simp;omega
   have e1:(List.take (o+i*n) cs.toList).drop o=(cs.toList.drop o).take (i*n):=by rw[zCl,zCB]
   have e2:cs.toList.drop (o+i*n+x.toArray.size)=(cs.toList.drop o).drop ((i+1)*n):=by
    rw[zCz];congr 1;simp only[zCg,hx];omega
   show((List.take (o+i*n) cs.toList++x++cs.toList.drop (o+i*n+x.toArray.size)).drop o).take (xs.length*n)=_
   rw[zBi,zB2 (by simp;omega),e1,e2]
   generalize hL:cs.toList.drop o=L
   have hLl:xs.length*n<=L.length:=by rw[<- hL];simp;omega
   have hA:(L.take (i*n)++x).length=(i+1)*n:=by rw[zAy,zBe,hx];omega
   rw[<- zBi,List.take_append,hA,zAs (by omega),zC0,zBD (by omega),zCl]
def zAeQ (P:zAY)(H:zAw)(v:Value)(xs:List Ver):Prop:=SlE 4 P H v (xs.map zEt)/\∀ x∈xs,x.wf
theorem zAeQ.keep {P S:zAY}{H H':zAw}{v:Value}{xs:List Ver}(h:zAeQ P H v xs)(k:Keep S H H')(hs:∀ b,P b->¬ S b):zAeQ P H' v xs:=⟨h.1.keep k hs,h.2⟩
theorem zAeQ.len {P:zAY}{H:zAw}{v:Value}{xs:List Ver}(h:zAeQ P H v xs):zDA v=some (.int .i64 xs.length):=by have:=h.1.len;simpa using this
theorem zAeQ.at {P:zAY}{H:zAw}{v:Value}{xs:List Ver}(h:zAeQ P H v xs){i:Nat}{x:Ver}(hi:xs[i]? = some x):x.wf/\∃ b o,(∀ k,ixS 4 v (.int k i)=some (Ptr b o))/\Pt H b o (zEt x)/\P b :=
 ⟨h.2 x (zAC hi),h.1.at (x:=zEt x) (by rw[zAq,hi];rfl)⟩
def zAeR (F:zAY)(H:zAw)(v:Value)(xs:List Ver):Prop:=BufE 4 F H v (xs.map zEt)/\∀ x∈xs,x.wf
theorem zAeR.keep {F S:zAY}{H H':zAw}{v:Value}{xs:List Ver}(h:zAeR F H v xs)(k:Keep S H H')(hs:∀ b,F b->¬ S b):zAeR F H' v xs:=⟨h.1.keep k hs,h.2⟩
theorem zAeR.set {F:zAY}{H:zAw}{v:Value}{xs:List Ver}(h:zAeR F H v xs){i:Nat}(hi:i<xs.length){x:Ver}(hx:x.wf) :
  ∃ p H',(∀ k,ixS 4 v (.int k i)=some p)/\stN 4 H p (.agg (zEt x).toArray)=some H'/\zAeR F H' v (xs.set i x)/\Keep F H H':=by
 obtain⟨p,H',h1,h2,h3,h4⟩:=h.1.set (i:=i) (by simpa using hi) (zDE hx) zLv
 refine⟨p,H',h1,h2,⟨by rw[List.map_set];exact h3,λy hy=>?_⟩,h4⟩
 rcases List.mem_or_eq_of_mem_set hy with hy|rfl
 ·exact h.2 y hy
 ·exact hx
theorem zAeR.cut {F:zAY}{H:zAw}{v:Value}{xs:List Ver}(h:zAeR F H v xs){i:Nat}(hi:i<=xs.length)(hne:xs≠[]):∃ u,slS 4 v none (some (.int .i64 (i:Nat))) none=some u/\zAeQ F H u (xs.take i):=by
 obtain⟨u,h1,h2⟩:=h.1.sl.cut (lo:=0) (hi:=i) (l:=none) (r:=some (.int .i64 (i:Nat))) (by simpa using hne) (zAz _) (by simpa using hi) rfl (λc hc=>by
  simp at hc
  simp only[bnd];rw[if_pos ⟨by omega,by omega⟩];rfl)
 refine⟨u,h1,by rw[zCs];simpa using h2,λx hx=>h.2 x (zBR hx)⟩
section
variable {α:Type}
def zSb (lt:α->α->Bool)(x:α):List α->List α
 | []=>[x]
 | y::ys=>if lt x y=true then y::zSb lt x ys else x::y::ys
def zT0 (lt:α->α->Bool)(l:List α):List α:=l.foldl (λacc x=>zSb lt x acc) []
def zHe (lt:α->α->Bool)(l:List α):List α:=(zT0 lt l).reverse
theorem zUP {lt:α->α->Bool}{x y:α}:∀ {l:List α},y∈zSb lt x l↔y=x\/y∈l
 | []=>by simp[zSb]
 | z::l=>by
  rw[zSb]
  split
  ·rw[zAp,zUP,zAp]
   constructor
   ·rintro(h|h|h)<;>simp[h]
   ·rintro(h|h|h)<;>simp[h]
  ·simp
theorem zYo {lt:α->α->Bool}{x:α}:∀ {l:List α},(zSb lt x l).length=l.length+1
 | []=>rfl
 | z::l=>by
  rw[zSb]
  split
  ·rw[zAZ,zYo];rfl
  ·rfl
theorem zIB {lt:α->α->Bool}{l:List α}{x:α}:zT0 lt (l++[x])=zSb lt x (zT0 lt l):=by unfold zT0;rw[List.foldl_append];rfl
theorem zQH {P:List α->Prop}(h0:P [])(h1:∀ l x,P l->P (l++[x])):∀ l,P l:=λl=>by
 rw[<- List.reverse_reverse l]
 induction l.reverse with
 | nil=>exact h0
 | cons x r ih=>rw[zCJ];exact h1 _ _ ih
theorem zZi {lt:α->α->Bool}{y:α}{l:List α}:y∈zT0 lt l↔y∈l:=by
 induction l using zQH with
 | h0=>simp[zT0]
 | h1 l x ih=>rw[zIB,zUP,ih,zAr,zAI];exact Or.comm
theorem zSY {lt:α->α->Bool}{y:α}{l:List α}:y∈zHe lt l↔y∈l:=by unfold zHe;rw[List.mem_reverse,zZi]
theorem zVV {lt:α->α->Bool}{l:List α}:(zHe lt l).length=l.length:=by
 unfold zHe
 rw[zCQ]
 induction l using zQH with
 | h0=>rfl
 | h1 l x ih=>rw[zIB,zYo,ih];simp
theorem zVW {lt:α->α->Bool}{x:α}:∀ {l:List α},(zSb lt x l).Perm (x::l)
 | [] => .refl _
 | z::l=>by
  rw[zSb]
  split
  ·exact(zVW.cons z).trans (.swap x z l)
  ·exact .refl _
theorem zRh {lt:α->α->Bool}{l:List α}:(zHe lt l).Perm l:=by
 unfold zHe
 refine(List.reverse_perm _).trans ?_
 induction l using zQH with
 | h0=>exact .refl _
 | h1 l x ih =>
  rw[zIB]
  refine zVW.trans ((ih.cons x).trans ?_)
  exact(List.perm_append_singleton x l).symm
theorem zSZ {β:Type}{c:β->β->Int}(hc:zRX c)(f:α->β){x:α}:∀ {l:List α},l.Pairwise (λa b=>c (f b) (f a)<=0)->(zSb (λa b=>decide (c (f a) (f b)<0)) x l).Pairwise λa b=>c (f b) (f a)<=0
 | [],_=>by simp[zSb]
 | z::l,h=>by
  obtain⟨h1,h2⟩:=zB5.1 h
  rw[zSb]
  split
  ·rename_i hlt
   refine zB5.2 ⟨λy hy=>?_,zSZ hc f h2⟩
   rcases zUP.1 hy with rfl|hy
   ·exact Int.le_of_lt (by simpa using hlt)
   ·exact h1 y hy
  ·rename_i hlt
   have hz:c (f z) (f x)<=0:=by
    have:=hc.turn (f x) (f z)
    have h3:¬ c (f x) (f z)<0:=by simpa using hlt
    omega
   refine zB5.2 ⟨λy hy=>?_,h⟩
   rcases zAp.1 hy with rfl|hy
   ·exact hz
   ·exact hc.trans (h1 y hy) hz
theorem zRM {β:Type}{c:β->β->Int}(hc:zRX c)(f:α->β){l:List α}:(zHe (λa b=>decide (c (f a) (f b)<0)) l).Pairwise λa b=>c (f a) (f b)<=0:=by
 unfold zHe
 rw[List.pairwise_reverse]
 induction l using zQH with
 | h0=>exact List.Pairwise.nil
 | h1 l x ih=>rw[zIB];exact zSZ hc f ih
end
def zAla:Man:=⟨[],zED,[],[],[]⟩
def gM (hv:List Man)(k:Nat):Man:=hv.getD k zAla
def zK1 (d:Dep)(m:Man):Bool:=decide (m.name=d.name)&&(zGn d.want&&zFU m.ver&&zPY d.want.op d.want.ver m.ver)
def zZj (a b:Man):Bool:=a.conf.any λd=>zK1 d b
def zOQ (hv:List Man)(ch:List Nat)(k:Nat):Bool:=ch.any λi=>zZj (gM hv i) (gM hv k) || zZj (gM hv k) (gM hv i)
def ofF (hv:List Man)(ch:List Nat)(nm:List UInt8):Option Nat:=ch.find? λk=>decide ((gM hv k).name=nm)
def zAig (hv:List Man)(a b:Nat):Bool:=decide (zAcr (gM hv b).ver (gM hv a).ver<0)
def zRi (hv:List Man)(d:Dep):List Nat:=(List.range hv.length).filter λi=>zK1 d (gM hv i)
def zOR (hv:List Man)(d:Dep):List Nat:=zHe (zAig hv) (zRi hv d)
inductive Res where
 | ok (l:List Nat)|fail|over
inductive St where
 | sol (ch:List Nat) (ws:List Dep)
 | tri (ch:List Nat) (ws:List Dep) (ks:List Nat)
inductive Run (hv:List Man) (bd:Nat):St->Nat->Res->zAY where
 | done {ch:List Nat} {s:Nat}:Run hv bd (.sol ch []) s (.ok ch) s
 | has {ch:List Nat} {d:Dep} {ws:List Dep} {s s' k:Nat} {r:Res} (h1:ofF hv ch d.name=some k) (h2:zK1 d (gM hv k)=true) (h:Run hv bd (.sol ch ws) s r s'):Run hv bd (.sol ch (d::ws)) s r s'
 | no {ch:List Nat} {d:Dep} {ws:List Dep} {s k:Nat} (h1:ofF hv ch d.name=some k) (h2:zK1 d (gM hv k)=false):Run hv bd (.sol ch (d::ws)) s .fail s
 | go {ch:List Nat} {d:Dep} {ws:List Dep} {s s':Nat} {r:Res} (h1:ofF hv ch d.name=none) (h:Run hv bd (.tri ch ws (zOR hv d)) s r s'):Run hv bd (.sol ch (d::ws)) s r s'
 | none {ch:List Nat} {ws:List Dep} {s:Nat}:Run hv bd (.tri ch ws []) s .fail s
 | over {ch:List Nat} {ws:List Dep} {k:Nat} {ks:List Nat}:Run hv bd (.tri ch ws (k::ks)) bd .over bd
 | clash {ch:List Nat} {ws:List Dep} {s s' k:Nat} {ks:List Nat} {r:Res} (h1:s≠bd) (h2:zOQ hv ch k=true) (h:Run hv bd (.tri ch ws ks) (s+1) r s'):Run hv bd (.tri ch ws (k::ks)) s r s'
 | down {ch:List Nat} {ws:List Dep} {s s' k:Nat} {ks:List Nat} {r:Res} (h1:s≠bd) (h2:zOQ hv ch k=false) (h:Run hv bd (.sol (ch++[k]) (ws++(gM hv k).deps)) (s+1) r s') (hr:r ≠ .fail):Run hv bd (.tri ch ws (k::ks)) s r s'
 | back {ch:List Nat} {ws:List Dep} {s s1 s' k:Nat} {ks:List Nat} {r:Res} (h1:s≠bd) (h2:zOQ hv ch k=false) (h:Run hv bd (.sol (ch++[k]) (ws++(gM hv k).deps)) (s+1) .fail s1) (h':Run hv bd (.tri ch ws ks) s1 r s'):Run hv bd (.tri ch ws (k::ks)) s r s'
theorem Run.det {hv:List Man}{bd:Nat}{st:St}{s s1:Nat}{r:Res}(h:Run hv bd st s r s1):∀ {r':Res} {s2:Nat},Run hv bd st s r' s2->r=r'/\s1=s2:=by
 induction h with
 | done=>intro r' s2 k;cases k;exact⟨rfl,rfl⟩
 | has h1 h2 _ ih =>
  intro r' s2 k
  cases k with
  | has k1 k2 k=>exact ih k
  | no k1 k2=>rw[h1]at k1;cases k1;rw[h2]at k2;cases k2
  | go k1 k=>rw[h1]at k1;cases k1
 | no h1 h2 =>
  intro r' s2 k
  cases k with
  | has k1 k2 k=>rw[h1]at k1;cases k1;rw[h2]at k2;cases k2
  | no k1 k2=>exact⟨rfl,rfl⟩
  | go k1 k=>rw[h1]at k1;cases k1
 | go h1 _ ih =>
  intro r' s2 k
  cases k with
  | has k1 k2 k=>rw[h1]at k1;cases k1
  | no k1 k2=>rw[h1]at k1;cases k1
  | go k1 k=>exact ih k
 | none=>intro r' s2 k;cases k;exact⟨rfl,rfl⟩
 | over =>
  intro r' s2 k
  cases k with
  | over=>exact⟨rfl,rfl⟩
  | clash h1=>exact absurd rfl h1
  | down h1=>exact absurd rfl h1
  | back h1=>exact absurd rfl h1
 | clash h1 h2 _ ih =>
  intro r' s2 k
  cases k with
  | over=>exact absurd rfl h1
  | clash k1 k2 k=>exact ih k
  | down k1 k2=>rw[h2]at k2;cases k2
  | back k1 k2=>rw[h2]at k2;cases k2
 | down h1 h2 _ hr ih =>
  intro r' s2 k
  cases k with
  | over=>exact absurd rfl h1
  | clash k1 k2 k=>rw[h2]at k2;cases k2
  | down k1 k2 k=>exact ih k
  | back k1 k2 k k'=>exact absurd (ih k).1 hr
 | back h1 h2 _ _ ih ih' =>
  intro r' s2 k
  cases k with
  | over=>exact absurd rfl h1
  | clash k1 k2 k=>rw[h2]at k2;cases k2
  | down k1 k2 k hr=>exact absurd (ih k).1.symm hr
  | back k1 k2 k k' =>
   obtain⟨_,rfl⟩:=ih k
   exact ih' k'
structure Pnt where
 ch:List Nat
 ws:List Dep
 ks:List Nat
def zAih (hv:List Man)(bd:Nat):List Pnt->Res->Nat->Res->zAY
 | [],r,s,R,S=>R=r/\S=s
 | p::ps,r,s,R,S=>(r = .fail/\∃ r' s',Run hv bd (.tri p.ch p.ws p.ks) s r' s'/\zAih hv bd ps r' s' R S)\/(r ≠ .fail/\R=r/\S=s)
theorem zAih.stop {hv:List Man}{bd:Nat}{ps:List Pnt}{r:Res}{s:Nat}(h:r ≠ .fail):zAih hv bd ps r s r s:=by
 cases ps with
 | nil=>exact⟨rfl,rfl⟩
 | cons p ps=>exact .inr ⟨h,rfl,rfl⟩
def Fwd (hv:List Man)(bd:Nat)(G:Res->zAY)(ch:List Nat)(ws:List Dep)(ps:List Pnt)(s:Nat):Prop:=∀ r s' R S,Run hv bd (.sol ch ws) s r s'->zAih hv bd ps r s' R S->G R S
def Bck (hv:List Man)(bd:Nat)(G:Res->zAY)(ps:List Pnt)(s:Nat):Prop:=∀ R S,zAih hv bd ps .fail s R S->G R S
section
variable {hv:List Man} {bd:Nat} {G:Res->zAY} {ch:List Nat} {ws:List Dep} {ps:List Pnt} {s:Nat} {d:Dep} {k:Nat} {ks:List Nat}
theorem Fwd.start:Fwd hv bd (λR S=>Run hv bd (.sol ch ws) s R S) ch ws [] s:=λr s' R S h ⟨h1,h2⟩=>by subst h1 h2;exact h
theorem Fwd.done (h:Fwd hv bd G ch [] ps s):G (.ok ch) s:=h _ _ _ _ .done (.stop (by simp))
theorem Fwd.has (h:Fwd hv bd G ch (d::ws) ps s)(h1:ofF hv ch d.name=some k)(h2:zK1 d (gM hv k)=true):Fwd hv bd G ch ws ps s:=λr s' R S hr hf=>h r s' R S (.has h1 h2 hr) hf
theorem Fwd.no (h:Fwd hv bd G ch (d::ws) ps s)(h1:ofF hv ch d.name=some k)(h2:zK1 d (gM hv k)=false):Bck hv bd G ps s:=λR S hf=>h _ _ R S (.no h1 h2) hf
theorem Fwd.push (h:Fwd hv bd G ch (d::ws) ps s)(h1:ofF hv ch d.name=none):Bck hv bd G (⟨ch,ws,zOR hv d⟩::ps) s:=λR S hf=>by
 rcases hf with ⟨_,r',s',hr,hf⟩|⟨hn,_⟩
 ·exact h r' s' R S (.go h1 hr) hf
 ·exact absurd rfl hn
theorem Bck.fail (h:Bck hv bd G [] s):G .fail s:=h _ _ ⟨rfl,rfl⟩
theorem Bck.pop (h:Bck hv bd G (⟨ch,ws,[]⟩::ps) s):Bck hv bd G ps s:=λR S hf=>h R S (.inl ⟨rfl,.fail,s,.none,hf⟩)
theorem Bck.over (h:Bck hv bd G (⟨ch,ws,k::ks⟩::ps) bd):G .over bd:=h _ _ (.inl ⟨rfl,.over,bd,.over,.stop (by simp)⟩)
theorem Bck.clash (h:Bck hv bd G (⟨ch,ws,k::ks⟩::ps) s)(h1:s≠bd)(h2:zOQ hv ch k=true):Bck hv bd G (⟨ch,ws,ks⟩::ps) (s+1):=λR S hf=>by
 rcases hf with ⟨_,r',s',hr,hf⟩|⟨hn,_⟩
 ·exact h R S (.inl ⟨rfl,r',s',.clash h1 h2 hr,hf⟩)
 ·exact absurd rfl hn
theorem Bck.down (h:Bck hv bd G (⟨ch,ws,k::ks⟩::ps) s)(h1:s≠bd)(h2:zOQ hv ch k=false):Fwd hv bd G (ch++[k]) (ws++(gM hv k).deps) (⟨ch,ws,ks⟩::ps) (s+1):=λr s' R S hr hf=>by
 rcases hf with ⟨rfl,r',s2,hr2,hf⟩|⟨hn,rfl,rfl⟩
 ·exact h R S (.inl ⟨rfl,r',s2,.back h1 h2 hr hr2,hf⟩)
 ·exact h R S (.inl ⟨rfl,R,S,.down h1 h2 hr hn,.stop hn⟩)
end
theorem zIh {d:Dep}{m:Man}(h:zK1 d m=true):m.name=d.name:=by
 unfold zK1 at h
 simp only[zAm,decide_eq_true_eq]at h
 exact h.1
theorem zUQ {hv:List Man}{d:Dep}{k:Nat}:k∈zOR hv d↔k<hv.length/\zK1 d (gM hv k)=true:=by
 unfold zOR zRi
 rw[zSY,zAU,zBS]
theorem zAdB {hv:List Man}{d:Dep}:(zOR hv d).length<=hv.length:=by
 unfold zOR zRi
 rw[zVV]
 exact zBm (zBs _ _) (by simp)
theorem zAbf {hv:List Man}{ch:List Nat}{nm:List UInt8}{k:Nat}(h:ofF hv ch nm=some k):k∈ch/\(gM hv k).name=nm:=by
 have h1:=List.mem_of_find?_eq_some h
 have h2:=List.find?_some h
 exact⟨h1,by simpa using h2⟩
theorem zAgp {hv:List Man}{ch:List Nat}{nm:List UInt8}(h:ofF hv ch nm=none):∀ k∈ch,(gM hv k).name≠nm:=by
 intro k hk
 have:=zCV.1 h k hk
 simpa using this
def zJo (hv:List Man)(ch:List Nat):Prop:=(∀ k∈ch,k<hv.length)/\(ch.map λk=>(gM hv k).name).Nodup
theorem zJo.nil {hv:List Man}:zJo hv []:=⟨λk h=>absurd h (by simp),List.nodup_nil⟩
theorem zJo.add {hv:List Man}{ch:List Nat}{d:Dep}{k:Nat}(h:zJo hv ch)(h1:ofF hv ch d.name=none)(hk:k∈zOR hv d):zJo hv (ch++[k]):=by
 obtain⟨k1,k2⟩:=zUQ.1 hk
 refine⟨λj hj=>?_,?_⟩
 ·rcases zAr.1 hj with hj|hj
  ·exact h.1 j hj
  ·simp at hj;subst hj;exact k1
 ·rw[zAN,zCw]
  refine⟨h.2,by simp,λa ha b hb e=>?_⟩
  subst e
  obtain⟨j,hj,rfl⟩:=zAo.1 ha
  simp at hb
  exact zAgp h1 j hj (by rw[hb,zIh k2])
theorem zUR:∀ (n:Nat) {l:List Nat},l.Nodup->(∀ k∈l,k<n)->l.length<=n
 | 0,l,_,h=>by
  cases l with
  | nil=>simp
  | cons a l=>exact absurd (h a (by simp)) (by omega)
 | n+1,l,hn,h=>by
  have h1:=zUR n (l:=l.erase n) (hn.erase n) λk hk=>by
   have:=(hn.mem_erase_iff).1 hk
   have:=h k this.2
   omega
  have:=List.length_erase (a:=n) (l:=l)
  split at this<;>omega
theorem zJo.nodup {hv:List Man}{ch:List Nat}(h:zJo hv ch):ch.Nodup:=(zBw.1 h.2).imp λhne e=>hne (by rw[e])
theorem zJo.len {hv:List Man}{ch:List Nat}(h:zJo hv ch):ch.length<=hv.length:=zUR _ h.nodup h.1
theorem Run.le {hv:List Man}{bd:Nat}{st:St}{s s':Nat}{r:Res}(h:Run hv bd st s r s'):s<=s':=by
 induction h with
 | done=>exact zAi _
 | has _ _ _ ih=>exact ih
 | no=>exact zAi _
 | go _ _ ih=>exact ih
 | none=>exact zAi _
 | over=>exact zAi _
 | clash _ _ _ ih=>omega
 | down _ _ _ _ ih=>omega
 | back _ _ _ _ ih ih'=>omega
theorem Run.top {hv:List Man}{bd:Nat}{st:St}{s s':Nat}{r:Res}(h:Run hv bd st s r s'):s<=bd->s'<=bd:=by
 induction h with
 | done=>exact id
 | has _ _ _ ih=>exact ih
 | no=>exact id
 | go _ _ ih=>exact ih
 | none=>exact id
 | over=>exact id
 | clash h1 _ _ ih=>intro h;exact ih (by omega)
 | down h1 _ _ _ ih=>intro h;exact ih (by omega)
 | back h1 _ _ _ ih ih'=>intro h;exact ih' (ih (by omega))
theorem Run.bound {hv:List Man}{bd:Nat}{st:St}{s s':Nat}{r:Res}(h:Run hv bd st s r s'):(r ≠ .over->∀ b,s'<=b->Run hv b st s r s')/\∀ b,s<=b->b<s'->Run hv b st s .over b:=by
 induction h with
 | done=>exact⟨λ_ b _ => .done,λb h1 h2=>by omega⟩
 | has h1 h2 _ ih=>exact⟨λhr b hb => .has h1 h2 (ih.1 hr b hb),λb k1 k2 => .has h1 h2 (ih.2 b k1 k2)⟩
 | no h1 h2=>exact⟨λ_ b _ => .no h1 h2,λb k1 k2=>by omega⟩
 | go h1 _ ih=>exact⟨λhr b hb => .go h1 (ih.1 hr b hb),λb k1 k2 => .go h1 (ih.2 b k1 k2)⟩
 | none=>exact⟨λ_ b _ => .none,λb k1 k2=>by omega⟩
 | over=>exact⟨λhr=>absurd rfl hr,λb k1 k2=>by omega⟩
 | @clash ch ws s s' k ks r h1 h2 h ih =>
  have hle:=h.le
  refine⟨λhr b hb => .clash (by omega) h2 (ih.1 hr b hb),λb k1 k2=>?_⟩
  by_cases e:s=b
  ·subst e;exact .over
  ·exact .clash e h2 (ih.2 b (by omega) k2)
 | @down ch ws s s' k ks r h1 h2 h hr ih =>
  have hle:=h.le
  refine⟨λhr' b hb => .down (by omega) h2 (ih.1 hr' b hb) hr,λb k1 k2=>?_⟩
  by_cases e:s=b
  ·subst e;exact .over
  ·exact .down e h2 (ih.2 b (by omega) k2) (by simp)
 | @back ch ws s s1 s' k ks r h1 h2 h h' ih ih' =>
  have hle:=h.le
  have hle':=h'.le
  refine⟨λhr' b hb => .back (by omega) h2 (ih.1 (by simp) b (by omega)) (ih'.1 hr' b hb),λb k1 k2=>?_⟩
  by_cases e:s=b
  ·subst e;exact .over
  ·by_cases e2:b<s1
   ·exact .down e h2 (ih.2 b (by omega) e2) (by simp)
   ·exact .back e h2 (ih.1 (by simp) b (by omega)) (ih'.2 b (by omega) k2)
def zAgq (hv:List Man)(ch:List Nat):Prop:=∀ i∈ch,∀ j∈ch,i≠j->zZj (gM hv i) (gM hv j)=false
inductive Rch (hv:List Man) (wants:List Dep) (ch:List Nat):zAY where
 | want {d:Dep} {k:Nat} (h:d∈wants) (hk:k∈ch) (hn:(gM hv k).name=d.name):Rch hv wants ch k
 | dep {d:Dep} {j k:Nat} (hj:Rch hv wants ch j) (h:d∈(gM hv j).deps) (hk:k∈ch) (hn:(gM hv k).name=d.name):Rch hv wants ch k
theorem Rch.mem {hv:List Man}{wants:List Dep}{ch:List Nat}{k:Nat}(h:Rch hv wants ch k):k∈ch:=by cases h<;>assumption
theorem Rch.mono {hv:List Man}{wants:List Dep}{ch ch':List Nat}{k:Nat}(h:Rch hv wants ch k)(hs:∀ j∈ch,j∈ch'):Rch hv wants ch' k:=by
 induction h with
 | want h hk hn=>exact .want h (hs _ hk) hn
 | dep _ h hk hn ih=>exact .dep ih h (hs _ hk) hn
def zAbg (hv:List Man)(wants:List Dep)(ch:List Nat)(d:Dep):Prop:=d∈wants\/∃ k,Rch hv wants ch k/\d∈(gM hv k).deps
theorem zAbg.mono {hv:List Man}{wants:List Dep}{ch ch':List Nat}{d:Dep}(h:zAbg hv wants ch d)(hs:∀ j∈ch,j∈ch'):zAbg hv wants ch' d:=h.imp id λ⟨k,h1,h2⟩=>⟨k,h1.mono hs,h2⟩
structure zZk (hv:List Man)(wants:List Dep)(ch:List Nat)(ws:List Dep):Prop where
 nm:zJo hv ch
 nr:zAgq hv ch
 rc:∀ k∈ch,Rch hv wants ch k
 aw:∀ d∈ws,zAbg hv wants ch d
 sat:∀ d,(d∈wants\/∃ k∈ch,d∈(gM hv k).deps)->(∃ k∈ch,zK1 d (gM hv k)=true)\/d∈ws
def zAii (hv:List Man)(wants:List Dep):St->Prop
 | .sol ch ws=>zZk hv wants ch ws
 | .tri ch ws ks=>∃ d,zZk hv wants ch (d::ws)/\ofF hv ch d.name=none/\∀ k∈ks,k∈zOR hv d
theorem zZk.start {hv:List Man}{wants:List Dep}:zZk hv wants [] wants :=
 ⟨zJo.nil,λi h=>absurd h (by simp),λi h=>absurd h (by simp),λd h => .inl h,λd h=>by
  rcases h with h|⟨k,hk,_⟩
  ·exact .inr h
  ·cases hk⟩
theorem zYp {hv:List Man}{ch:List Nat}{k:Nat}(h:zOQ hv ch k=false):∀ i∈ch,zZj (gM hv i) (gM hv k)=false/\zZj (gM hv k) (gM hv i)=false:=by
 intro i hi
 unfold zOQ at h
 have:=zBM.1 h i hi
 simpa using this
theorem zZk.add {hv:List Man}{wants:List Dep}{ch:List Nat}{d:Dep}{ws:List Dep}{k:Nat}(h:zZk hv wants ch (d::ws))(h1:ofF hv ch d.name=none)(hk:k∈zOR hv d)(hc:zOQ hv ch k=false):zZk hv wants (ch++[k]) (ws++(gM hv k).deps):=by
 have hsub:∀ j∈ch,j∈ch++[k]:=λj hj=>zAr.2 (.inl hj)
 have hkm:k∈ch++[k]:=by simp
 have hname:=zIh (zUQ.1 hk).2
 have hrk:Rch hv wants (ch++[k]) k:=by
  rcases h.aw d (by simp) with hw|⟨j,hj,hd⟩
  ·exact .want hw hkm hname
  ·exact .dep (hj.mono hsub) hd hkm hname
 refine⟨h.nm.add h1 hk,?_,?_,?_,?_⟩
 ·intro i hi j hj hne
  rcases zAr.1 hi with hi'|hi'
  ·rcases zAr.1 hj with hj'|hj'
   ·exact h.nr i hi' j hj' hne
   ·have e:j=k:=by simpa using hj'
    rw[e];exact(zYp hc i hi').1
  ·have e:i=k:=by simpa using hi'
   rcases zAr.1 hj with hj'|hj'
   ·rw[e];exact(zYp hc j hj').2
   ·have e':j=k:=by simpa using hj'
    exact absurd (e.trans e'.symm) hne
 ·intro j hj
  rcases zAr.1 hj with hj|hj
  ·exact(h.rc j hj).mono hsub
  ·simp at hj;subst hj;exact hrk
 ·intro e he
  rcases zAr.1 he with he|he
  ·exact(h.aw e (by simp[he])).mono hsub
  ·exact .inr ⟨k,hrk,he⟩
 ·intro e he
  have old:(∃ j∈ch,zK1 e (gM hv j)=true)\/e∈d::ws->(∃ j∈ch++[k],zK1 e (gM hv j)=true)\/e∈ws++(gM hv k).deps:=by
   rintro(⟨j,hj,hf⟩|he)
   ·exact .inl ⟨j,hsub j hj,hf⟩
   ·rcases zAp.1 he with rfl|he
    ·exact .inl ⟨k,hkm,(zUQ.1 hk).2⟩
    ·exact .inr (zAr.2 (.inl he))
  rcases he with he|⟨j,hj,he⟩
  ·exact old (h.sat e (.inl he))
  ·rcases zAr.1 hj with hj|hj
   ·exact old (h.sat e (.inr ⟨j,hj,he⟩))
   ·simp at hj;subst hj
    exact .inr (zAr.2 (.inr he))
theorem Run.sound {hv:List Man}{wants:List Dep}{bd:Nat}{st:St}{s s':Nat}{r:Res}(h:Run hv bd st s r s'):zAii hv wants st->∀ l,r = .ok l->zZk hv wants l []:=by
 induction h with
 | done=>intro hp l e;cases e;exact hp
 | @has ch d ws s s' k r h1 h2 _ ih =>
  intro hp l e
  have hp:zZk hv wants ch (d::ws):=hp
  refine ih ⟨hp.nm,hp.nr,hp.rc,λe he=>hp.aw e (by simp[he]),λe he=>?_⟩ l e
  rcases hp.sat e he with h|h
  ·exact .inl h
  ·rcases zAp.1 h with rfl|h
   ·exact .inl ⟨k,(zAbf h1).1,h2⟩
   ·exact .inr h
 | no=>intro _ l e;cases e
 | @go ch d ws s s' r h1 _ ih=>intro hp l e;exact ih ⟨d,hp,h1,λk hk=>hk⟩ l e
 | none=>intro _ l e;cases e
 | over=>intro _ l e;cases e
 | clash _ _ _ ih =>
  intro hp l e
  obtain⟨d,h1,h2,h3⟩:=hp
  exact ih ⟨d,h1,h2,λk hk=>h3 k (by simp[hk])⟩ l e
 | down _ h2 _ _ ih =>
  intro hp l e
  obtain⟨d,p1,p2,p3⟩:=hp
  exact ih (p1.add p2 (p3 _ (by simp)) h2) l e
 | back _ _ _ _ _ ih' =>
  intro hp l e
  obtain⟨d,h1,h2,h3⟩:=hp
  exact ih' ⟨d,h1,h2,λk hk=>h3 k (by simp[hk])⟩ l e
structure zAkG (hv:List Man)(X:List Nat):Prop where
 nm:zJo hv X
 nr:zAgq hv X
 cl:∀ k∈X,∀ d∈(gM hv k).deps,∃ j∈X,zK1 d (gM hv j)=true
theorem zJo.same {hv:List Man}{X:List Nat}(h:zJo hv X){i j:Nat}(hi:i∈X)(hj:j∈X)(e:(gM hv i).name=(gM hv j).name):i=j:=by
 have hp:=zBw.1 h.2
 obtain⟨a,ha,rfl⟩:=zBA hi
 obtain⟨b,hb,rfl⟩:=zBA hj
 have hq:=zBC.1 hp
 by_cases h1:a<b
 ·exact absurd e (hq a b ha hb h1)
 ·by_cases h2:b<a
  ·exact absurd e.symm (hq b a hb ha h2)
  ·have:a=b:=by omega
   subst this;rfl
def zAjY (hv:List Man)(X:List Nat):St->Prop
 | .sol ch ws=>(∀ k∈ch,k∈X)/\∀ d∈ws,∃ k∈X,zK1 d (gM hv k)=true
 | .tri ch ws ks=>(∀ k∈ch,k∈X)/\(∀ d∈ws,∃ k∈X,zK1 d (gM hv k)=true)/\∃ k∈X,k∈ks/\k∉ch
def zAcs (hv:List Man)(l:List Nat):Prop:=l.Pairwise λa b=>zMA (gM hv a).name (gM hv b).name<0
theorem zAcs.ext {hv:List Man}:∀ {l m:List Nat},zAcs hv l->zAcs hv m->(∀ k,k∈l↔k∈m)->l=m
 | [],[],_,_,_=>rfl
 | [],b::m,_,_,h=>absurd ((h b).2 (by simp)) (by simp)
 | a::l,[],_,_,h=>absurd ((h a).1 (by simp)) (by simp)
 | a::l,b::m,hl,hm,h=>by
  obtain⟨l1,l2⟩:=zB5.1 hl
  obtain⟨m1,m2⟩:=zB5.1 hm
  have irr:∀ x:Nat,¬ zMA (gM hv x).name (gM hv x).name<0:=λx hx=>by rw[zFG.self]at hx;omega
  have asym:∀ x y:Nat,zMA (gM hv x).name (gM hv y).name<0->¬ zMA (gM hv y).name (gM hv x).name<0:=λx y h1 h2=>by
   have:=zFG.turn (gM hv x).name (gM hv y).name;omega
  have hab:a=b:=by
   rcases zAp.1 ((h a).1 (by simp)) with e|e
   ·exact e
   ·rcases zAp.1 ((h b).2 (by simp)) with e2|e2
    ·exact e2.symm
    ·exact absurd (m1 a e) (asym _ _ (l1 b e2))
  subst hab
  congr 1
  refine zAcs.ext l2 m2 λk=>⟨λhk=>?_,λhk=>?_⟩
  ·rcases zAp.1 ((h k).1 (by simp[hk])) with e|e
   ·subst e;exact absurd (l1 k hk) (irr k)
   ·exact e
  ·rcases zAp.1 ((h k).2 (by simp[hk])) with e|e
   ·subst e;exact absurd (m1 k hk) (irr k)
   ·exact e
def zAeS (hv:List Man)(a b:Nat):Bool:=decide (zMA (gM hv a).name (gM hv b).name<0)
def zFN (hv:List Man)(l:List Nat):List Nat:=zHe (zAeS hv) l
theorem zHB {hv:List Man}{l:List Nat}{k:Nat}:k∈zFN hv l↔k∈l:=zSY
theorem zP1 {hv:List Man}{l:List Nat}(h:zJo hv l):zAcs hv (zFN hv l):=by
 have h1:=zRM zFG (λk=>(gM hv k).name) (l:=l)
 have hp:(zFN hv l).Perm l:=zRh
 have h2:((zFN hv l).map λk=>(gM hv k).name).Nodup:=((hp.map _).nodup_iff).2 h.2
 have h2:=zBw.1 h2
 unfold zAcs
 have h1':(zFN hv l).Pairwise λa b=>zMA (gM hv a).name (gM hv b).name<=0:=h1
 refine(h1'.and h2).imp λ{a b} ⟨q1,q2⟩=>?_
 have:zMA (gM hv a).name (gM hv b).name≠0:=λe=>q2 ((zFG.zero _ _).1 e)
 omega
theorem zJo.sorted {hv:List Man}{l:List Nat}(h:zJo hv l):zJo hv (zFN hv l):=by
 have hp:(zFN hv l).Perm l:=zRh
 exact⟨λk hk=>h.1 k (zHB.1 hk),((hp.map _).nodup_iff).2 h.2⟩
structure zQI (hv:List Man)(wants:List Dep)(c:List Nat):Prop where
 nm:zJo hv c
 nr:zAgq hv c
 sat:∀ d,(d∈wants\/∃ k∈c,d∈(gM hv k).deps)->∃ k∈c,zK1 d (gM hv k)=true
section
variable {hv:List Man} {wants:List Dep} {c c' n m:List Nat}
theorem zZk.right (h:zZk hv wants c []):zQI hv wants c:=⟨h.nm,h.nr,λd hd=>(h.sat d hd).resolve_right (by simp)⟩
theorem zQI.perm (h:zQI hv wants c)(hp:c'.Perm c):zQI hv wants c' :=
 ⟨⟨λk hk=>h.nm.1 k (hp.mem_iff.1 hk),((hp.map _).nodup_iff).2 h.nm.2⟩,λi hi j hj hne=>h.nr i (hp.mem_iff.1 hi) j (hp.mem_iff.1 hj) hne,λd hd=>by
  obtain⟨k,hk,hf⟩:=h.sat d (hd.imp id λ⟨k,hk,hd⟩=>⟨k,hp.mem_iff.1 hk,hd⟩)
  exact⟨k,hp.mem_iff.2 hk,hf⟩⟩
theorem zQI.comp (h:zQI hv wants c):zAjY hv c (.sol [] wants):=⟨λk hk=>absurd hk (by simp),λd hd=>h.sat d (.inl hd)⟩
def zs (l:List Nat):List Int:=l.map λ(k:Nat)=>(k:Int)
def zS0 (hv:List Man)(wants:List Dep)(ch n:List Nat):Prop:=zAcs hv n/\∀ k,k∈n↔Rch hv wants ch k
theorem zAcs.nodup (h:zAcs hv n):(n.map λk=>(gM hv k).name).Nodup:=zBw.2 (h.imp λ{a b} hlt e=>by rw[e,zFG.self]at hlt;omega)
theorem zS0.one (h:zS0 hv wants c n)(k:zS0 hv wants c m):n=m:=h.1.ext k.1 λj=>(h.2 j).trans (k.2 j).symm
theorem zS0.right (h:zS0 hv wants c n)(hR:zQI hv wants c):zQI hv wants n:=by
 have hsub:∀ k∈n,k∈c:=λk hk=>((h.2 k).1 hk).mem
 refine⟨⟨λk hk=>hR.nm.1 k (hsub k hk),h.1.nodup⟩,λi hi j hj hne=>hR.nr i (hsub i hi) j (hsub j hj) hne,λd hd=>?_⟩
 rcases hd with hd|⟨k,hk,hd⟩
 ·obtain⟨j,hj,hf⟩:=hR.sat d (.inl hd)
  exact⟨j,(h.2 j).2 (.want hd hj (zIh hf)),hf⟩
 ·obtain⟨j,hj,hf⟩:=hR.sat d (.inr ⟨k,hsub k hk,hd⟩)
  exact⟨j,(h.2 j).2 (.dep ((h.2 k).1 hk) hd hj (zIh hf)),hf⟩
theorem zS0.again (h:zS0 hv wants c n)(k:zS0 hv wants n m):m=n:=by
 refine k.1.ext h.1 λj=>?_
 rw[k.2 j]
 constructor
 ·exact Rch.mem
 ·intro hj
  have hr:=(h.2 j).1 hj
  induction hr with
  | want hd hk hn=>exact .want hd hj hn
  | dep hi hd hk hn ih=>exact .dep (ih ((h.2 _).2 hi)) hd hj hn
theorem zS0.all (h:zQI hv wants c)(hr:∀ k∈c,Rch hv wants c k):zS0 hv wants c (zFN hv c) :=
 ⟨zP1 h.nm,λk=>⟨λhk=>hr k (zHB.1 hk),λhk=>zHB.2 hk.mem⟩⟩
structure zTs (hv:List Man)(wants:List Dep)(ch out:List Nat)(ws:List Dep):Prop where
 nd:out.Nodup
 rc:∀ k∈out,Rch hv wants ch k
 aw:∀ d∈ws,zAbg hv wants ch d
 cl:∀ d,(d∈wants\/∃ k∈out,d∈(gM hv k).deps)->d∈ws\/∃ k∈out,(gM hv k).name=d.name
theorem zTs.start:zTs hv wants c [] wants:=⟨List.nodup_nil,λk h=>absurd h (by simp),λd h => .inl h,λd h=>by
 rcases h with h|⟨k,hk,_⟩
 ·exact .inl h
 ·cases hk⟩
theorem zTs.old {d:Dep}{ws:List Dep}{out:List Nat}{k:Nat}(h:zTs hv wants c out (d::ws))(hk:k∈out)(hn:(gM hv k).name=d.name):zTs hv wants c out ws :=
 ⟨h.nd,h.rc,λe he=>h.aw e (by simp[he]),λe he=>by
  rcases h.cl e he with h1|h1
  ·rcases zAp.1 h1 with rfl|h1
   ·exact .inr ⟨k,hk,hn⟩
   ·exact .inl h1
  ·exact .inr h1⟩
theorem zTs.new {d:Dep}{ws:List Dep}{out:List Nat}{k:Nat}(h:zTs hv wants c out (d::ws))(hk:k∈c)(hn:(gM hv k).name=d.name)(ho:k∉out):zTs hv wants c (out++[k]) (ws++(gM hv k).deps):=by
 have hr:Rch hv wants c k:=by
  rcases h.aw d (by simp) with hw|⟨j,hj,hd⟩
  ·exact .want hw hk hn
  ·exact .dep hj hd hk hn
 refine⟨?_,?_,?_,?_⟩
 ·rw[zCw]
  refine⟨h.nd,by simp,λa ha b hb e=>?_⟩
  simp at hb;subst hb;subst e;exact ho ha
 ·intro j hj
  rcases zAr.1 hj with hj|hj
  ·exact h.rc j hj
  ·simp at hj;subst hj;exact hr
 ·intro e he
  rcases zAr.1 he with he|he
  ·exact h.aw e (by simp[he])
  ·exact .inr ⟨k,hr,he⟩
 ·intro e he
  have old:e∈d::ws\/(∃ j∈out,(gM hv j).name=e.name)->e∈ws++(gM hv k).deps\/∃ j∈out++[k],(gM hv j).name=e.name:=by
   rintro(h1|⟨j,hj,h1⟩)
   ·rcases zAp.1 h1 with rfl|h1
    ·exact .inr ⟨k,by simp,hn⟩
    ·exact .inl (zAr.2 (.inl h1))
   ·exact .inr ⟨j,zAr.2 (.inl hj),h1⟩
  rcases he with he|⟨j,hj,he⟩
  ·exact old (h.cl e (.inl he))
  ·rcases zAr.1 hj with hj|hj
   ·exact old (h.cl e (.inr ⟨j,hj,he⟩))
   ·simp at hj;subst hj
    exact .inl (zAr.2 (.inr he))
theorem zTs.done {out:List Nat}(h:zTs hv wants c out [])(hN:zJo hv c):zS0 hv wants c (zFN hv out):=by
 have hsub:∀ k∈out,k∈c:=λk hk=>(h.rc k hk).mem
 have hno:zJo hv out:=by
  refine⟨λk hk=>hN.1 k (hsub k hk),zBw.2 ?_⟩
  exact h.nd.imp_of_mem λ{a b} ha hb hne e=>hne (hN.same (hsub a ha) (hsub b hb) e)
 refine⟨zP1 hno,λk=>⟨λhk=>h.rc k (zHB.1 hk),λhk=>zHB.2 ?_⟩⟩
 induction hk with
 | want hd hk hn =>
  rcases h.cl _ (.inl hd) with h1|⟨j,hj,h1⟩
  ·cases h1
  ·rw[<- hN.same (hsub j hj) hk (h1.trans hn.symm)];exact hj
 | dep hi hd hk hn ih =>
  rcases h.cl _ (.inr ⟨_,ih,hd⟩) with h1|⟨j,hj,h1⟩
  ·cases h1
  ·rw[<- hN.same (hsub j hj) hk (h1.trans hn.symm)];exact hj
end
abbrev Nm:=List UInt8
def zAgr (hv:List Man)(c:List Nat)(n:Nm):List Nm:=match ofF hv c n with
 | some k=>(gM hv k).deps.map (·.name)
 | none=>[]
def zU9 (hv:List Man)(c:List Nat)(name:Nm):Nat->Nm->Option (List Nm)
 | 0,x=>if x=name then some [x] else none
 | j+1,x=>((zAgr hv c x).findSome? (zU9 hv c name j)).map (x :: ·)
def zZl (hv:List Man)(c:List Nat)(name:Nm)(j:Nat)(ws:List Nm):Option (List Nm):=ws.findSome? (zU9 hv c name j)
def zOm:List Nm->List (Nm×List Nm)->List (Nm×List Nm)
 | _,[]=>[]
 | seen,e::t=>if e.1∈seen then zOm seen t else e::zOm (seen++[e.1]) t
def zRN (hv:List Man)(c:List Nat)(l:List (Nm×List Nm)):List (Nm×List Nm):=l.flatMap λe=>(zAgr hv c e.1).map λy=>(y,e.2++[e.1])
inductive zT1 (hv:List Man) (c:List Nat) (name:Nm):List Nm->List (Nm×List Nm)->Option (List Nm)->Prop where
 | nil {seen:List Nm}:zT1 hv c name seen [] none
 | hit {seen:List Nm} {l:List (Nm×List Nm)} {pr:List Nm} (h:(name,pr)∈l):zT1 hv c name seen l (some (pr++[name]))
 | next {seen:List Nm} {l:List (Nm×List Nm)} {r:Option (List Nm)} (h0:l≠[]) (h:name∉l.map (·.1)) (hr:zT1 hv c name (seen++(zOm seen (zRN hv c l)).map (·.1)) (zOm seen (zRN hv c l)) r):zT1 hv c name seen l r
theorem zPc {β:Type}{g:Nm->Option β}{f:List Nm->β->β}:∀ {t:List (Nm×List Nm)} {seen:List Nm},(∀ y∈seen,g y=none)->t.findSome? (λe=>(g e.1).map (f e.2))=(zOm seen t).findSome? λe=>(g e.1).map (f e.2)
 | [],_,_=>rfl
 | e::t,seen,h=>by
  rw[zOm,zCk]
  by_cases he:e.1∈seen
  ·rw[if_pos he,h _ he]
   exact zPc h
  ·rw[if_neg he,zCk]
   cases hg:g e.1 with
   | some v=>rfl
   | none =>
    exact zPc λy hy=>by
     rcases zAr.1 hy with hy|hy
     ·exact h y hy
     ·simp at hy;subst hy;exact hg
theorem zQJ {e:Nm×List Nm}:∀ {t:List (Nm×List Nm)} {seen:List Nm},e∈zOm seen t->e∈t/\e.1∉seen
 | [],_,h=>by cases h
 | a::t,seen,h=>by
  rw[zOm]at h
  split at h
  ·obtain⟨h1,h2⟩:=zQJ h
   exact⟨zCL _ h1,h2⟩
  ·rename_i ha
   rcases zAp.1 h with rfl|h
   ·exact⟨by simp,ha⟩
   ·obtain⟨h1,h2⟩:=zQJ h
    exact⟨zCL _ h1,λhm=>h2 (zAr.2 (.inl hm))⟩
theorem zP2:∀ {t:List (Nm×List Nm)} {seen:List Nm},seen.Nodup->(seen++(zOm seen t).map (·.1)).Nodup
 | [],seen,h=>by simpa [zOm] using h
 | a::t,seen,h=>by
  rw[zOm]
  split
  ·exact zP2 h
  ·rename_i ha
   have h2:(seen++[a.1]).Nodup:=by
    rw[zCw]
    exact⟨h,by simp,λx hx y hy e=>by simp at hy;subst hy;subst e;exact ha hx⟩
   have:=zP2 (t:=t) h2
   simpa [zBi] using this
section
variable {hv:List Man} {c:List Nat} {name:Nm} {ws:List Nm}
theorem zAbh {j:Nat}:zZl hv c name j ws=none↔∀ x∈ws,zU9 hv c name j x=none:=List.findSome?_eq_none_iff
structure zAhh (hv:List Man)(c:List Nat)(name:Nm)(ws:List Nm)(m:Nat)(seen:List Nm)(l:List (Nm×List Nm)):Prop where
 fa:∀ j,(∀ i,i<m+j->zZl hv c name i ws=none)->zZl hv c name (m+j) ws=l.findSome? λe=>(zU9 hv c name j e.1).map (e.2 ++ ·)
 fb:∀ y∈seen,∃ i,i<=m/\∀ j,zU9 hv c name j y≠none->zZl hv c name (i+j) ws≠none
 fl:∀ e∈l,∀ j,zU9 hv c name j e.1≠none->zZl hv c name (m+j) ws≠none
 fc:∀ i,i<m->zZl hv c name i ws=none
 fd:∀ e∈l,e.2.length=m
theorem zAdC {α β γ:Type}{f:α->Option β}{g:β->γ}{l:List α}:(l.findSome? f).map g=l.findSome? λx=>(f x).map g:=by
 induction l with
 | nil=>rfl
 | cons a l ih =>
  rw[zCk,zCk]
  cases f a with
  | some b=>rfl
  | none=>exact ih
theorem zAbi {α β γ:Type}{g:α->List β}{f:β->Option γ}{l:List α}:(l.flatMap g).findSome? f=l.findSome? λx=>(g x).findSome? f:=by
 induction l with
 | nil=>rfl
 | cons a l ih =>
  rw[List.flatMap_cons,List.findSome?_append,zCk,ih]
  cases (g a).findSome? f<;>rfl
theorem zT2 {α β γ:Type}{g:α->β}{f:β->Option γ}{l:List α}:(l.map g).findSome? f=l.findSome? λx=>f (g x):=by
 induction l with
 | nil=>rfl
 | cons a l ih =>
  rw[zBa,zCk,zCk,ih]
theorem zAhh.start:zAhh hv c name ws 0 ((zOm [] (ws.map λy=>(y,[]))).map (·.1)) (zOm [] (ws.map λy=>(y,[]))):=by
 have hm:∀ e∈zOm [] (ws.map λy=>(y,([]:List Nm))),e.1∈ws/\e.2=[]:=λe he=>by
  obtain⟨h1,_⟩:=zQJ he
  obtain⟨y,hy,rfl⟩:=zAo.1 h1
  exact⟨hy,rfl⟩
 have hG:∀ y∈ws,∀ j,zU9 hv c name j y≠none->zZl hv c name j ws≠none:=λy hy j hj hn=>hj (zAbh.1 hn y hy)
 refine⟨λj _=>?_,λy hy=>?_,λe he j hj=>?_,λi hi=>absurd hi (by omega),λe he=>by rw[(hm e he).2];rfl⟩
 ·rw[<- zPc (f:=λpr p=>pr++p) (λy hy=>absurd hy (by simp)),zT2,zAh]
  unfold zZl
  congr 1
  funext x
  cases zU9 hv c name j x<;>rfl
 ·obtain⟨e,he,rfl⟩:=zAo.1 hy
  exact⟨0,zAi _,λj hj=>by rw[zAh];exact hG _ (hm e he).1 j hj⟩
 ·rw[zAh];exact hG _ (hm e he).1 j hj
theorem zAhh.next {m:Nat}{seen:List Nm}{l:List (Nm×List Nm)}(h:zAhh hv c name ws m seen l)(hn:name∉l.map (·.1)):zAhh hv c name ws (m+1) (seen++(zOm seen (zRN hv c l)).map (·.1)) (zOm seen (zRN hv c l)):=by
 have hm:∀ e∈zOm seen (zRN hv c l),∃ x∈l,e.1∈zAgr hv c x.1/\e.2=x.2++[x.1]:=λe he=>by
  obtain⟨h1,_⟩:=zQJ he
  obtain⟨x,hx,h2⟩:=List.mem_flatMap.1 h1
  obtain⟨y,hy,rfl⟩:=zAo.1 h2
  exact⟨x,hx,hy,rfl⟩
 have hl:∀ e∈zOm seen (zRN hv c l),∀ j,zU9 hv c name j e.1≠none->zZl hv c name (m+1+j) ws≠none:=λe he j hj=>by
  obtain⟨x,hx,hy,_⟩:=hm e he
  have:zU9 hv c name (j+1) x.1≠none:=λhno=>by
   rw[zU9,Option.map_eq_none_iff]at hno
   exact hj (List.findSome?_eq_none_iff.1 hno _ hy)
  have:=h.fl x hx (j+1) this
  rwa [show m+(j+1)=m+1+j by omega]at this
 have h0:zZl hv c name m ws=none:=by
  have:=h.fa 0 h.fc
  rw[zAu]at this
  rw[this,List.findSome?_eq_none_iff]
  intro e he
  rw[zU9,if_neg (λe1=>hn (zAo.2 ⟨e,he,e1⟩))];rfl
 refine⟨λj hj=>?_,λy hy=>?_,hl,λi hi=>?_,λe he=>?_⟩
 ·rw[<- zPc (f:=λpr p=>pr++p) (λy hy=>?_)]
  ·have:=h.fa (j+1) (λi hi=>hj i (by omega))
   rw[show m+1+j=m+(j+1) by omega,this]
   unfold zRN
   rw[zAbi]
   congr 1
   funext e
   rw[zT2,zU9,Option.map_map,zAdC]
   congr 1
   funext y
   cases zU9 hv c name j y with
   | none=>rfl
   | some p=>simp
  ·obtain⟨i,hi,hb⟩:=h.fb y hy
   cases hf:zU9 hv c name j y with
   | none=>rfl
   | some p=>exact absurd (hj (i+j) (by omega)) (hb j (by rw[hf];simp))
 ·rcases zAr.1 hy with hy|hy
  ·obtain⟨i,hi,hb⟩:=h.fb y hy
   exact⟨i,by omega,hb⟩
  ·obtain⟨e,he,rfl⟩:=zAo.1 hy
   exact⟨m+1,zAi _,hl e he⟩
 ·by_cases e:i=m
  ·subst e;exact h0
  ·exact h.fc i (by omega)
 ·obtain⟨x,hx,_,e2⟩:=hm e he
  rw[e2,zAy,h.fd x hx];rfl
theorem zT1.ways {seen:List Nm}{l:List (Nm×List Nm)}{r:Option (List Nm)}(h:zT1 hv c name seen l r):∀ {m:Nat},zAhh hv c name ws m seen l->(l.map (·.1)).Nodup->seen.Nodup ->
  (∀ p,r=some p->∃ n,p.length=n+1/\zZl hv c name n ws=some p/\∀ i,i<n->zZl hv c name i ws=none)/\(r=none->∀ i,zZl hv c name i ws=none):=by
 induction h with
 | nil =>
  intro m hI _ _
  refine⟨λp e=>absurd e (by simp),λ_ i=>?_⟩
  by_cases hi:i<m
  ·exact hI.fc i hi
  ·obtain⟨j,rfl⟩:∃ j,i=m+j:=⟨i-m,by omega⟩
   induction j using Nat.strongRecOn with
   | ind j ih =>
    rw[hI.fa j λi hi'=>?_]
    ·rfl
    ·by_cases h1:i<m
     ·exact hI.fc i h1
     ·obtain⟨j',rfl⟩:∃ j',i=m+j':=⟨i-m,by omega⟩
      exact ih j' (by omega) h1
 | @hit seen l pr hm =>
  intro m hI hnd _
  refine⟨λp e=>?_,λe=>absurd e (by simp)⟩
  cases e
  refine⟨m,by rw[zAy,hI.fd _ hm];rfl,?_,hI.fc⟩
  have:=hI.fa 0 hI.fc
  rw[zAu]at this
  rw[this]
  have hone:∀ {l:List (Nm×List Nm)},(name,pr)∈l->(l.map (·.1)).Nodup->(l.findSome? λe=>(zU9 hv c name 0 e.1).map (e.2 ++ ·))=some (pr++[name]):=by
   intro l
   induction l with
   | nil=>intro h;cases h
   | cons a l ih =>
    intro h hn
    rw[zBa]at hn
    obtain⟨n1,n2⟩:=zCu.1 hn
    rw[zCk]
    by_cases ha:a.1=name
    ·rcases zAp.1 h with rfl|h
     ·rw[zU9,if_pos rfl];rfl
     ·exact absurd (zAo.2 ⟨_,h,ha.symm⟩) n1
    ·rcases zAp.1 h with rfl|h
     ·exact absurd rfl ha
     ·rw[zU9,if_neg ha]
      exact ih h n2
  exact hone hm hnd
 | @next seen l r h0 hn _ ih =>
  intro m hI hnd hs
  have:=zP2 (t:=zRN hv c l) hs
  exact ih (hI.next hn) (zCw.1 this).2.1 this
end
end Go.Proofs.YticdfkoncnnmmaaGreatDoor
