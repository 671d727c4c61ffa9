import Derived.Test.YticdfkoncnnmmaaGreatDoorG0
import Derived.Test.YticdfkoncnnmmaaGreatDoorG1
set_option linter.unusedSimpArgs false
set_option linter.unusedVariables false
set_option maxRecDepth 100000
namespace Go.Proofs.YticdfkoncnnmmaaGreatDoor
open Go.X Go.X.Diff
theorem zAbz {n i:Nat}{xs:List (List Value)}{x:List Value}(h:∀ x ∈ xs,x.length=n)(hi:i<xs.length):(xs.set i x).flatten=xs.flatten.take (i * n)++x++xs.flatten.drop ((i+1) * n):=by
 rw[List.set_eq_take_append_cons_drop,if_pos hi,List.flatten_append,List.flatten_cons,zQF h,zQE h,List.append_assoc]
theorem _root_.Go.X.BufE.set {n:Nat}{F:Nat->Prop}{H:zAd}{v:Value}{xs:List (List Value)}(h:BufE n F H v xs){i:Nat}(hi:i<xs.length){x:List Value}(hx:x.length=n)(h1:∀ c ∈ x,c.oneCell'=true) :
  ∃ p H',(∀ k,ixS n v (.int k i)=some p)/\stN n H p (.agg x.toArray)=some H'/\BufE n F H' v (xs.set i x)/\Keep F H H':=by
 obtain⟨g1,g2,h | ⟨b,o,c,cs,T,f,rfl,hf,hc,hb,hle,ht,hl⟩⟩:=h
 ·obtain⟨rfl,rfl⟩:=h;simp at hi
 ·have hn1:i * n+n=(i+1) * n:=by rw[Nat.succ_mul]
  have hn2:(i+1) * n<=xs.length * n:=Nat.mul_le_mul_right n hi
  have hn3:xs.length * n<=c * n:=Nat.mul_le_mul_right n hc
  have hsz:o+i * n+x.toArray.size<=cs.size:=by simp only[List.size_toArray,hx];omega
  refine⟨Ptr b (o+i * n),_,fun k=>?_,by simp only[stN];rw[if_pos (by simpa using hx)];exact zNI hb _ _ (ht _ _) hsz (zRY h1),⟨?_,?_,.inr ⟨b,o,c,_,T,f,by simp,hf,by simpa using hc,zAt hb,?_,ht,?_⟩⟩,Keep.set hf⟩
  ·simp only[ixS];rw[if_pos ⟨by omega,by omega⟩];rfl
  ·intro y hy
   rcases List.mem_or_eq_of_mem_set hy with hy | rfl
   ·exact g1 y hy
   ·exact hx
  ·intro y hy
   rcases List.mem_or_eq_of_mem_set hy with hy | rfl
   ·exact g2 y hy
   ·exact h1
  ·rw[zIA hsz];exact hle
  ·rw[List.length_set,zAbz g1 hi,<- hl]
   unfold spl
   have hlo:o+i * n<=cs.toList.length:=by simp;omega
   have e1:(List.take (o+i * n) cs.toList).drop o=(cs.toList.drop o).take (i * n):=by rw[List.drop_take,Nat.add_sub_cancel_left]
   have e2:cs.toList.drop (o+i * n+x.toArray.size)=(cs.toList.drop o).drop ((i+1) * n):=by
    rw[List.drop_drop];congr 1;simp only[List.size_toArray,hx];omega
   show((List.take (o+i * n) cs.toList++x++cs.toList.drop (o+i * n+x.toArray.size)).drop o).take (xs.length * n)=_
   rw[List.append_assoc,List.drop_append_of_le_length (by simp;omega),e1,e2]
   generalize hL:cs.toList.drop o=L
   have hLl:xs.length * n<=L.length:=by rw[<- hL];simp;omega
   have hA:(L.take (i * n)++x).length=(i+1) * n:=by rw[List.length_append,List.length_take,hx];omega
   rw[<- List.append_assoc,List.take_append,hA,List.take_of_length_le (by omega),List.take_take,Nat.min_eq_left (by omega),List.drop_take]
def zAcE (P:Nat->Prop)(H:zAd)(v:Value)(xs:List Ver):Prop:=SlE 4 P H v (xs.map zCt)/\∀ x ∈ xs,x.wf
theorem zAcE.keep {P S:Nat->Prop}{H H':zAd}{v:Value}{xs:List Ver}(h:zAcE P H v xs)(k:Keep S H H')(hs:∀ b,P b->¬ S b):zAcE P H' v xs:=⟨h.1.keep k hs,h.2⟩
theorem zAcE.len {P:Nat->Prop}{H:zAd}{v:Value}{xs:List Ver}(h:zAcE P H v xs):zBO v=some (.int .i64 xs.length):=by have:=h.1.len;simpa using this
theorem zAcE.at {P:Nat->Prop}{H:zAd}{v:Value}{xs:List Ver}(h:zAcE P H v xs){i:Nat}{x:Ver}(hi:xs[i]? = some x):x.wf/\∃ b o,(∀ k,ixS 4 v (.int k i)=some (Ptr b o))/\Pt H b o (zCt x)/\P b :=
 ⟨h.2 x (List.mem_of_getElem? hi),h.1.at (x:=zCt x) (by rw[List.getElem?_map,hi];rfl)⟩
def zAcF (F:Nat->Prop)(H:zAd)(v:Value)(xs:List Ver):Prop:=BufE 4 F H v (xs.map zCt)/\∀ x ∈ xs,x.wf
theorem zAcF.keep {F S:Nat->Prop}{H H':zAd}{v:Value}{xs:List Ver}(h:zAcF F H v xs)(k:Keep S H H')(hs:∀ b,F b->¬ S b):zAcF F H' v xs:=⟨h.1.keep k hs,h.2⟩
theorem zAcF.set {F:Nat->Prop}{H:zAd}{v:Value}{xs:List Ver}(h:zAcF F H v xs){i:Nat}(hi:i<xs.length){x:Ver}(hx:x.wf) :
  ∃ p H',(∀ k,ixS 4 v (.int k i)=some p)/\stN 4 H p (.agg (zCt x).toArray)=some H'/\zAcF F H' v (xs.set i x)/\Keep F H H':=by
 obtain⟨p,H',h1,h2,h3,h4⟩:=h.1.set (i:=i) (by simpa using hi) (zBD hx) zIB
 refine⟨p,H',h1,h2,⟨by rw[List.map_set];exact h3,fun y hy=>?_⟩,h4⟩
 rcases List.mem_or_eq_of_mem_set hy with hy | rfl
 ·exact h.2 y hy
 ·exact hx
theorem zAcF.cut {F:Nat->Prop}{H:zAd}{v:Value}{xs:List Ver}(h:zAcF F H v xs){i:Nat}(hi:i<=xs.length)(hne:xs≠[]):∃ u,slS 4 v none (some (.int .i64 (i:Nat))) none=some u/\zAcE F H u (xs.take i):=by
 obtain⟨u,h1,h2⟩:=h.1.sl.cut (lo:=0) (hi:=i) (l:=none) (r:=some (.int .i64 (i:Nat))) (by simpa using hne) (Nat.zero_le _) (by simpa using hi) rfl (fun c hc=>by
  simp at hc
  simp only[bnd];rw[if_pos ⟨by omega,by omega⟩];rfl)
 refine⟨u,h1,by rw[List.map_take];simpa using h2,fun x hx=>h.2 x (List.mem_of_mem_take hx)⟩
section
variable {α:Type}
def zQc (lt:α->α->Bool)(x:α):List α->List α
 | []=>[x]
 | y :: ys=>if lt x y=true then y :: zQc lt x ys else x :: y :: ys
def zR5 (lt:α->α->Bool)(l:List α):List α:=l.foldl (fun acc x=>zQc lt x acc) []
def zFs (lt:α->α->Bool)(l:List α):List α:=(zR5 lt l).reverse
theorem zSW {lt:α->α->Bool}{x y:α}:∀ {l:List α},y ∈ zQc lt x l↔y=x\/y ∈ l
 | []=>by simp[zQc]
 | z :: l=>by
  rw[zQc]
  split
  ·rw[List.mem_cons,zSW,List.mem_cons]
   constructor
   ·rintro(h | h | h) <;> simp[h]
   ·rintro(h | h | h) <;> simp[h]
  ·simp
theorem zWs {lt:α->α->Bool}{x:α}:∀ {l:List α},(zQc lt x l).length=l.length+1
 | []=>rfl
 | z :: l=>by
  rw[zQc]
  split
  ·rw[List.length_cons,zWs];rfl
  ·rfl
theorem zGQ {lt:α->α->Bool}{l:List α}{x:α}:zR5 lt (l++[x])=zQc lt x (zR5 lt l):=by unfold zR5;rw[List.foldl_append];rfl
theorem zOR {P:List α->Prop}(h0:P [])(h1:∀ l x,P l->P (l++[x])):∀ l,P l:=fun l=>by
 rw[<- List.reverse_reverse l]
 induction l.reverse with
 | nil=>exact h0
 | cons x r ih=>rw[List.reverse_cons];exact h1 _ _ ih
theorem zXn {lt:α->α->Bool}{y:α}{l:List α}:y ∈ zR5 lt l↔y ∈ l:=by
 induction l using zOR with
 | h0=>simp[zR5]
 | h1 l x ih=>rw[zGQ,zSW,ih,List.mem_append,List.mem_singleton];exact Or.comm
theorem zQ1 {lt:α->α->Bool}{y:α}{l:List α}:y ∈ zFs lt l↔y ∈ l:=by unfold zFs;rw[List.mem_reverse,zXn]
theorem zUa {lt:α->α->Bool}{l:List α}:(zFs lt l).length=l.length:=by
 unfold zFs
 rw[List.length_reverse]
 induction l using zOR with
 | h0=>rfl
 | h1 l x ih=>rw[zGQ,zWs,ih];simp
theorem zUb {lt:α->α->Bool}{x:α}:∀ {l:List α},(zQc lt x l).Perm (x :: l)
 | [] => .refl _
 | z :: l=>by
  rw[zQc]
  split
  ·exact(zUb.cons z).trans (.swap x z l)
  ·exact .refl _
theorem zPt {lt:α->α->Bool}{l:List α}:(zFs lt l).Perm l:=by
 unfold zFs
 refine(List.reverse_perm _).trans ?_
 induction l using zOR with
 | h0=>exact .refl _
 | h1 l x ih =>
  rw[zGQ]
  refine zUb.trans ((ih.cons x).trans ?_)
  exact(List.perm_append_singleton x l).symm
theorem zQ2 {β:Type}{c:β->β->Int}(hc:zP1 c)(f:α->β){x:α}:∀ {l:List α},l.Pairwise (fun a b=>c (f b) (f a)<=0)->(zQc (fun a b=>decide (c (f a) (f b)<0)) x l).Pairwise fun a b=>c (f b) (f a)<=0
 | [],_=>by simp[zQc]
 | z :: l,h=>by
  obtain⟨h1,h2⟩:=List.pairwise_cons.1 h
  rw[zQc]
  split
  ·rename_i hlt
   refine List.pairwise_cons.2 ⟨fun y hy=>?_,zQ2 hc f h2⟩
   rcases zSW.1 hy with rfl | hy
   ·exact Int.le_of_lt (by simpa using hlt)
   ·exact h1 y hy
  ·rename_i hlt
   have hz:c (f z) (f x)<=0:=by
    have:=hc.turn (f x) (f z)
    have h3:¬ c (f x) (f z)<0:=by simpa using hlt
    omega
   refine List.pairwise_cons.2 ⟨fun y hy=>?_,h⟩
   rcases List.mem_cons.1 hy with rfl | hy
   ·exact hz
   ·exact hc.trans (h1 y hy) hz
theorem zPT {β:Type}{c:β->β->Int}(hc:zP1 c)(f:α->β){l:List α}:(zFs (fun a b=>decide (c (f a) (f b)<0)) l).Pairwise fun a b=>c (f a) (f b)<=0:=by
 unfold zFs
 rw[List.pairwise_reverse]
 induction l using zOR with
 | h0=>exact List.Pairwise.nil
 | h1 l x ih=>rw[zGQ];exact zQ2 hc f ih
end
def zAiD:Man:=⟨[],zB2,[],[],[]⟩
def gM (hv:List Man)(k:Nat):Man:=hv.getD k zAiD
def zNp (d:Dep)(m:Man):Bool:=decide (m.name=d.name) && (zFJ d.want && zEX m.ver && zVb d.want.op d.want.ver m.ver)
def zXO (a b:Man):Bool:=a.conf.any fun d=>zNp d b
def zM3 (hv:List Man)(ch:List Nat)(k:Nat):Bool:=ch.any fun i=>zXO (gM hv i) (gM hv k) || zXO (gM hv k) (gM hv i)
def ofF (hv:List Man)(ch:List Nat)(nm:List UInt8):Option Nat:=ch.find? fun k=>decide ((gM hv k).name=nm)
def zAfW (hv:List Man)(a b:Nat):Bool:=decide (zAao (gM hv b).ver (gM hv a).ver<0)
def zPu (hv:List Man)(d:Dep):List Nat:=(List.range hv.length).filter fun i=>zNp d (gM hv i)
def zM4 (hv:List Man)(d:Dep):List Nat:=zFs (zAfW hv) (zPu hv d)
inductive Res where
 | ok (l:List Nat) | fail | over
inductive St where
 | sol (ch:List Nat) (ws:List Dep)
 | tri (ch:List Nat) (ws:List Dep) (ks:List Nat)
inductive Run (hv:List Man) (bd:Nat):St->Nat->Res->Nat->Prop where
 | done {ch:List Nat} {s:Nat}:Run hv bd (.sol ch []) s (.ok ch) s
 | has {ch:List Nat} {d:Dep} {ws:List Dep} {s s' k:Nat} {r:Res} (h1:ofF hv ch d.name=some k) (h2:zNp d (gM hv k)=true) (h:Run hv bd (.sol ch ws) s r s'):Run hv bd (.sol ch (d :: ws)) s r s'
 | no {ch:List Nat} {d:Dep} {ws:List Dep} {s k:Nat} (h1:ofF hv ch d.name=some k) (h2:zNp d (gM hv k)=false):Run hv bd (.sol ch (d :: ws)) s .fail s
 | go {ch:List Nat} {d:Dep} {ws:List Dep} {s s':Nat} {r:Res} (h1:ofF hv ch d.name=none) (h:Run hv bd (.tri ch ws (zM4 hv d)) s r s'):Run hv bd (.sol ch (d :: ws)) s r s'
 | none {ch:List Nat} {ws:List Dep} {s:Nat}:Run hv bd (.tri ch ws []) s .fail s
 | over {ch:List Nat} {ws:List Dep} {k:Nat} {ks:List Nat}:Run hv bd (.tri ch ws (k :: ks)) bd .over bd
 | clash {ch:List Nat} {ws:List Dep} {s s' k:Nat} {ks:List Nat} {r:Res} (h1:s≠bd) (h2:zM3 hv ch k=true) (h:Run hv bd (.tri ch ws ks) (s+1) r s'):Run hv bd (.tri ch ws (k :: ks)) s r s'
 | down {ch:List Nat} {ws:List Dep} {s s' k:Nat} {ks:List Nat} {r:Res} (h1:s≠bd) (h2:zM3 hv ch k=false) (h:Run hv bd (.sol (ch++[k]) (ws++(gM hv k).deps)) (s+1) r s') (hr:r ≠ .fail):Run hv bd (.tri ch ws (k :: ks)) s r s'
 | back {ch:List Nat} {ws:List Dep} {s s1 s' k:Nat} {ks:List Nat} {r:Res} (h1:s≠bd) (h2:zM3 hv ch k=false) (h:Run hv bd (.sol (ch++[k]) (ws++(gM hv k).deps)) (s+1) .fail s1) (h':Run hv bd (.tri ch ws ks) s1 r s'):Run hv bd (.tri ch ws (k :: ks)) s r s'
theorem Run.det {hv:List Man}{bd:Nat}{st:St}{s s1:Nat}{r:Res}(h:Run hv bd st s r s1):∀ {r':Res} {s2:Nat},Run hv bd st s r' s2->r=r'/\s1=s2:=by
 induction h with
 | done=>intro r' s2 k;cases k;exact⟨rfl,rfl⟩
 | has h1 h2 _ ih =>
  intro r' s2 k
  cases k with
  | has k1 k2 k=>exact ih k
  | no k1 k2=>rw[h1]at k1;cases k1;rw[h2]at k2;cases k2
  | go k1 k=>rw[h1]at k1;cases k1
 | no h1 h2 =>
  intro r' s2 k
  cases k with
  | has k1 k2 k=>rw[h1]at k1;cases k1;rw[h2]at k2;cases k2
  | no k1 k2=>exact⟨rfl,rfl⟩
  | go k1 k=>rw[h1]at k1;cases k1
 | go h1 _ ih =>
  intro r' s2 k
  cases k with
  | has k1 k2 k=>rw[h1]at k1;cases k1
  | no k1 k2=>rw[h1]at k1;cases k1
  | go k1 k=>exact ih k
 | none=>intro r' s2 k;cases k;exact⟨rfl,rfl⟩
 | over =>
  intro r' s2 k
  cases k with
  | over=>exact⟨rfl,rfl⟩
  | clash h1=>exact absurd rfl h1
  | down h1=>exact absurd rfl h1
  | back h1=>exact absurd rfl h1
 | clash h1 h2 _ ih =>
  intro r' s2 k
  cases k with
  | over=>exact absurd rfl h1
  | clash k1 k2 k=>exact ih k
  | down k1 k2=>rw[h2]at k2;cases k2
  | back k1 k2=>rw[h2]at k2;cases k2
 | down h1 h2 _ hr ih =>
  intro r' s2 k
  cases k with
  | over=>exact absurd rfl h1
  | clash k1 k2 k=>rw[h2]at k2;cases k2
  | down k1 k2 k=>exact ih k
  | back k1 k2 k k'=>exact absurd (ih k).1 hr
 | back h1 h2 _ _ ih ih' =>
  intro r' s2 k
  cases k with
  | over=>exact absurd rfl h1
  | clash k1 k2 k=>rw[h2]at k2;cases k2
  | down k1 k2 k hr=>exact absurd (ih k).1.symm hr
  | back k1 k2 k k' =>
   obtain⟨_,rfl⟩:=ih k
   exact ih' k'
structure Pnt where
 ch:List Nat
 ws:List Dep
 ks:List Nat
def zAfX (hv:List Man)(bd:Nat):List Pnt->Res->Nat->Res->Nat->Prop
 | [],r,s,R,S=>R=r/\S=s
 | p :: ps,r,s,R,S=>(r = .fail/\∃ r' s',Run hv bd (.tri p.ch p.ws p.ks) s r' s'/\zAfX hv bd ps r' s' R S)\/(r ≠ .fail/\R=r/\S=s)
theorem zAfX.stop {hv:List Man}{bd:Nat}{ps:List Pnt}{r:Res}{s:Nat}(h:r ≠ .fail):zAfX hv bd ps r s r s:=by
 cases ps with
 | nil=>exact⟨rfl,rfl⟩
 | cons p ps=>exact .inr ⟨h,rfl,rfl⟩
def Fwd (hv:List Man)(bd:Nat)(G:Res->Nat->Prop)(ch:List Nat)(ws:List Dep)(ps:List Pnt)(s:Nat):Prop:=∀ r s' R S,Run hv bd (.sol ch ws) s r s'->zAfX hv bd ps r s' R S->G R S
def Bck (hv:List Man)(bd:Nat)(G:Res->Nat->Prop)(ps:List Pnt)(s:Nat):Prop:=∀ R S,zAfX hv bd ps .fail s R S->G R S
section
variable {hv:List Man} {bd:Nat} {G:Res->Nat->Prop} {ch:List Nat} {ws:List Dep} {ps:List Pnt} {s:Nat} {d:Dep} {k:Nat} {ks:List Nat}
theorem Fwd.start:Fwd hv bd (fun R S=>Run hv bd (.sol ch ws) s R S) ch ws [] s:=fun r s' R S h ⟨h1,h2⟩=>by subst h1 h2;exact h
theorem Fwd.done (h:Fwd hv bd G ch [] ps s):G (.ok ch) s:=h _ _ _ _ .done (.stop (by simp))
theorem Fwd.has (h:Fwd hv bd G ch (d :: ws) ps s)(h1:ofF hv ch d.name=some k)(h2:zNp d (gM hv k)=true):Fwd hv bd G ch ws ps s:=fun r s' R S hr hf=>h r s' R S (.has h1 h2 hr) hf
theorem Fwd.no (h:Fwd hv bd G ch (d :: ws) ps s)(h1:ofF hv ch d.name=some k)(h2:zNp d (gM hv k)=false):Bck hv bd G ps s:=fun R S hf=>h _ _ R S (.no h1 h2) hf
theorem Fwd.push (h:Fwd hv bd G ch (d :: ws) ps s)(h1:ofF hv ch d.name=none):Bck hv bd G (⟨ch,ws,zM4 hv d⟩ :: ps) s:=fun R S hf=>by
 rcases hf with ⟨_,r',s',hr,hf⟩ | ⟨hn,_⟩
 ·exact h r' s' R S (.go h1 hr) hf
 ·exact absurd rfl hn
theorem Bck.fail (h:Bck hv bd G [] s):G .fail s:=h _ _ ⟨rfl,rfl⟩
theorem Bck.pop (h:Bck hv bd G (⟨ch,ws,[]⟩ :: ps) s):Bck hv bd G ps s:=fun R S hf=>h R S (.inl ⟨rfl,.fail,s,.none,hf⟩)
theorem Bck.over (h:Bck hv bd G (⟨ch,ws,k :: ks⟩ :: ps) bd):G .over bd:=h _ _ (.inl ⟨rfl,.over,bd,.over,.stop (by simp)⟩)
theorem Bck.clash (h:Bck hv bd G (⟨ch,ws,k :: ks⟩ :: ps) s)(h1:s≠bd)(h2:zM3 hv ch k=true):Bck hv bd G (⟨ch,ws,ks⟩ :: ps) (s+1):=fun R S hf=>by
 rcases hf with ⟨_,r',s',hr,hf⟩ | ⟨hn,_⟩
 ·exact h R S (.inl ⟨rfl,r',s',.clash h1 h2 hr,hf⟩)
 ·exact absurd rfl hn
theorem Bck.down (h:Bck hv bd G (⟨ch,ws,k :: ks⟩ :: ps) s)(h1:s≠bd)(h2:zM3 hv ch k=false):Fwd hv bd G (ch++[k]) (ws++(gM hv k).deps) (⟨ch,ws,ks⟩ :: ps) (s+1):=fun r s' R S hr hf=>by
 rcases hf with ⟨rfl,r',s2,hr2,hf⟩ | ⟨hn,rfl,rfl⟩
 ·exact h R S (.inl ⟨rfl,r',s2,.back h1 h2 hr hr2,hf⟩)
 ·exact h R S (.inl ⟨rfl,R,S,.down h1 h2 hr hn,.stop hn⟩)
end
theorem zLx {d:Dep}{m:Man}(h:zNp d m=true):m.name=d.name:=by
 unfold zNp at h
 simp only[Bool.and_eq_true,decide_eq_true_eq]at h
 exact h.1
theorem zSX {hv:List Man}{d:Dep}{k:Nat}:k ∈ zM4 hv d↔k<hv.length/\zNp d (gM hv k)=true:=by
 unfold zM4 zPu
 rw[zQ1,List.mem_filter,List.mem_range]
theorem zAbA {hv:List Man}{d:Dep}:(zM4 hv d).length<=hv.length:=by
 unfold zM4 zPu
 rw[zUa]
 exact Nat.le_trans (List.length_filter_le _ _) (by simp)
theorem zY6 {hv:List Man}{ch:List Nat}{nm:List UInt8}{k:Nat}(h:ofF hv ch nm=some k):k ∈ ch/\(gM hv k).name=nm:=by
 have h1:=List.mem_of_find?_eq_some h
 have h2:=List.find?_some h
 exact⟨h1,by simpa using h2⟩
theorem zAed {hv:List Man}{ch:List Nat}{nm:List UInt8}(h:ofF hv ch nm=none):∀ k ∈ ch,(gM hv k).name≠nm:=by
 intro k hk
 have:=List.find?_eq_none.1 h k hk
 simpa using this
def zHK (hv:List Man)(ch:List Nat):Prop:=(∀ k ∈ ch,k<hv.length)/\(ch.map fun k=>(gM hv k).name).Nodup
theorem zHK.nil {hv:List Man}:zHK hv []:=⟨fun k h=>absurd h (by simp),List.nodup_nil⟩
theorem zHK.add {hv:List Man}{ch:List Nat}{d:Dep}{k:Nat}(h:zHK hv ch)(h1:ofF hv ch d.name=none)(hk:k ∈ zM4 hv d):zHK hv (ch++[k]):=by
 obtain⟨k1,k2⟩:=zSX.1 hk
 refine⟨fun j hj=>?_,?_⟩
 ·rcases List.mem_append.1 hj with hj | hj
  ·exact h.1 j hj
  ·simp at hj;subst hj;exact k1
 ·rw[List.map_append,List.nodup_append]
  refine⟨h.2,by simp,fun a ha b hb e=>?_⟩
  subst e
  obtain⟨j,hj,rfl⟩:=List.mem_map.1 ha
  simp at hb
  exact zAed h1 j hj (by rw[hb,zLx k2])
theorem zSY:∀ (n:Nat) {l:List Nat},l.Nodup->(∀ k ∈ l,k<n)->l.length<=n
 | 0,l,_,h=>by
  cases l with
  | nil=>simp
  | cons a l=>exact absurd (h a (by simp)) (by omega)
 | n+1,l,hn,h=>by
  have h1:=zSY n (l:=l.erase n) (hn.erase n) fun k hk=>by
   have:=(hn.mem_erase_iff).1 hk
   have:=h k this.2
   omega
  have:=List.length_erase (a:=n) (l:=l)
  split at this <;> omega
theorem zHK.nodup {hv:List Man}{ch:List Nat}(h:zHK hv ch):ch.Nodup:=(List.pairwise_map.1 h.2).imp fun hne e=>hne (by rw[e])
theorem zHK.len {hv:List Man}{ch:List Nat}(h:zHK hv ch):ch.length<=hv.length:=zSY _ h.nodup h.1
theorem Run.le {hv:List Man}{bd:Nat}{st:St}{s s':Nat}{r:Res}(h:Run hv bd st s r s'):s<=s':=by
 induction h with
 | done=>exact Nat.le_refl _
 | has _ _ _ ih=>exact ih
 | no=>exact Nat.le_refl _
 | go _ _ ih=>exact ih
 | none=>exact Nat.le_refl _
 | over=>exact Nat.le_refl _
 | clash _ _ _ ih=>omega
 | down _ _ _ _ ih=>omega
 | back _ _ _ _ ih ih'=>omega
theorem Run.top {hv:List Man}{bd:Nat}{st:St}{s s':Nat}{r:Res}(h:Run hv bd st s r s'):s<=bd->s'<=bd:=by
 induction h with
 | done=>exact id
 | has _ _ _ ih=>exact ih
 | no=>exact id
 | go _ _ ih=>exact ih
 | none=>exact id
 | over=>exact id
 | clash h1 _ _ ih=>intro h;exact ih (by omega)
 | down h1 _ _ _ ih=>intro h;exact ih (by omega)
 | back h1 _ _ _ ih ih'=>intro h;exact ih' (ih (by omega))
theorem Run.bound {hv:List Man}{bd:Nat}{st:St}{s s':Nat}{r:Res}(h:Run hv bd st s r s'):(r ≠ .over->∀ b,s'<=b->Run hv b st s r s')/\∀ b,s<=b->b<s'->Run hv b st s .over b:=by
 induction h with
 | done=>exact⟨fun _ b _ => .done,fun b h1 h2=>by omega⟩
 | has h1 h2 _ ih=>exact⟨fun hr b hb => .has h1 h2 (ih.1 hr b hb),fun b k1 k2 => .has h1 h2 (ih.2 b k1 k2)⟩
 | no h1 h2=>exact⟨fun _ b _ => .no h1 h2,fun b k1 k2=>by omega⟩
 | go h1 _ ih=>exact⟨fun hr b hb => .go h1 (ih.1 hr b hb),fun b k1 k2 => .go h1 (ih.2 b k1 k2)⟩
 | none=>exact⟨fun _ b _ => .none,fun b k1 k2=>by omega⟩
 | over=>exact⟨fun hr=>absurd rfl hr,fun b k1 k2=>by omega⟩
 | @clash ch ws s s' k ks r h1 h2 h ih =>
  have hle:=h.le
  refine⟨fun hr b hb => .clash (by omega) h2 (ih.1 hr b hb),fun b k1 k2=>?_⟩
  by_cases e:s=b
  ·subst e;exact .over
  ·exact .clash e h2 (ih.2 b (by omega) k2)
 | @down ch ws s s' k ks r h1 h2 h hr ih =>
  have hle:=h.le
  refine⟨fun hr' b hb => .down (by omega) h2 (ih.1 hr' b hb) hr,fun b k1 k2=>?_⟩
  by_cases e:s=b
  ·subst e;exact .over
  ·exact .down e h2 (ih.2 b (by omega) k2) (by simp)
 | @back ch ws s s1 s' k ks r h1 h2 h h' ih ih' =>
  have hle:=h.le
  have hle':=h'.le
  refine⟨fun hr' b hb => .back (by omega) h2 (ih.1 (by simp) b (by omega)) (ih'.1 hr' b hb),fun b k1 k2=>?_⟩
  by_cases e:s=b
  ·subst e;exact .over
  ·by_cases e2:b<s1
   ·exact .down e h2 (ih.2 b (by omega) e2) (by simp)
   ·exact .back e h2 (ih.1 (by simp) b (by omega)) (ih'.2 b (by omega) k2)
def zAee (hv:List Man)(ch:List Nat):Prop:=∀ i ∈ ch,∀ j ∈ ch,i≠j->zXO (gM hv i) (gM hv j)=false
inductive Rch (hv:List Man) (wants:List Dep) (ch:List Nat):Nat->Prop where
 | want {d:Dep} {k:Nat} (h:d ∈ wants) (hk:k ∈ ch) (hn:(gM hv k).name=d.name):Rch hv wants ch k
 | dep {d:Dep} {j k:Nat} (hj:Rch hv wants ch j) (h:d ∈ (gM hv j).deps) (hk:k ∈ ch) (hn:(gM hv k).name=d.name):Rch hv wants ch k
theorem Rch.mem {hv:List Man}{wants:List Dep}{ch:List Nat}{k:Nat}(h:Rch hv wants ch k):k ∈ ch:=by cases h <;> assumption
theorem Rch.mono {hv:List Man}{wants:List Dep}{ch ch':List Nat}{k:Nat}(h:Rch hv wants ch k)(hs:∀ j ∈ ch,j ∈ ch'):Rch hv wants ch' k:=by
 induction h with
 | want h hk hn=>exact .want h (hs _ hk) hn
 | dep _ h hk hn ih=>exact .dep ih h (hs _ hk) hn
def zY7 (hv:List Man)(wants:List Dep)(ch:List Nat)(d:Dep):Prop:=d ∈ wants\/∃ k,Rch hv wants ch k/\d ∈ (gM hv k).deps
theorem zY7.mono {hv:List Man}{wants:List Dep}{ch ch':List Nat}{d:Dep}(h:zY7 hv wants ch d)(hs:∀ j ∈ ch,j ∈ ch'):zY7 hv wants ch' d:=h.imp id fun⟨k,h1,h2⟩=>⟨k,h1.mono hs,h2⟩
structure zY8 (hv:List Man)(wants:List Dep)(ch:List Nat)(ws:List Dep):Prop where
 nm:zHK hv ch
 nr:zAee hv ch
 rc:∀ k ∈ ch,Rch hv wants ch k
 aw:∀ d ∈ ws,zY7 hv wants ch d
 sat:∀ d,(d ∈ wants\/∃ k ∈ ch,d ∈ (gM hv k).deps)->(∃ k ∈ ch,zNp d (gM hv k)=true)\/d ∈ ws
def zAfY (hv:List Man)(wants:List Dep):St->Prop
 | .sol ch ws=>zY8 hv wants ch ws
 | .tri ch ws ks=>∃ d,zY8 hv wants ch (d :: ws)/\ofF hv ch d.name=none/\∀ k ∈ ks,k ∈ zM4 hv d
theorem zY8.start {hv:List Man}{wants:List Dep}:zY8 hv wants [] wants :=
 ⟨zHK.nil,fun i h=>absurd h (by simp),fun i h=>absurd h (by simp),fun d h => .inl h,fun d h=>by
  rcases h with h | ⟨k,hk,_⟩
  ·exact .inr h
  ·cases hk⟩
theorem zWt {hv:List Man}{ch:List Nat}{k:Nat}(h:zM3 hv ch k=false):∀ i ∈ ch,zXO (gM hv i) (gM hv k)=false/\zXO (gM hv k) (gM hv i)=false:=by
 intro i hi
 unfold zM3 at h
 have:=List.any_eq_false.1 h i hi
 simpa using this
theorem zY8.add {hv:List Man}{wants:List Dep}{ch:List Nat}{d:Dep}{ws:List Dep}{k:Nat}(h:zY8 hv wants ch (d :: ws))(h1:ofF hv ch d.name=none)(hk:k ∈ zM4 hv d)(hc:zM3 hv ch k=false):zY8 hv wants (ch++[k]) (ws++(gM hv k).deps):=by
 have hsub:∀ j ∈ ch,j ∈ ch++[k]:=fun j hj=>List.mem_append.2 (.inl hj)
 have hkm:k ∈ ch++[k]:=by simp
 have hname:=zLx (zSX.1 hk).2
 have hrk:Rch hv wants (ch++[k]) k:=by
  rcases h.aw d (by simp) with hw | ⟨j,hj,hd⟩
  ·exact .want hw hkm hname
  ·exact .dep (hj.mono hsub) hd hkm hname
 refine⟨h.nm.add h1 hk,?_,?_,?_,?_⟩
 ·intro i hi j hj hne
  rcases List.mem_append.1 hi with hi' | hi'
  ·rcases List.mem_append.1 hj with hj' | hj'
   ·exact h.nr i hi' j hj' hne
   ·have e:j=k:=by simpa using hj'
    rw[e];exact(zWt hc i hi').1
  ·have e:i=k:=by simpa using hi'
   rcases List.mem_append.1 hj with hj' | hj'
   ·rw[e];exact(zWt hc j hj').2
   ·have e':j=k:=by simpa using hj'
    exact absurd (e.trans e'.symm) hne
 ·intro j hj
  rcases List.mem_append.1 hj with hj | hj
  ·exact(h.rc j hj).mono hsub
  ·simp at hj;subst hj;exact hrk
 ·intro e he
  rcases List.mem_append.1 he with he | he
  ·exact(h.aw e (by simp[he])).mono hsub
  ·exact .inr ⟨k,hrk,he⟩
 ·intro e he
  have old:(∃ j ∈ ch,zNp e (gM hv j)=true)\/e ∈ d :: ws->(∃ j ∈ ch++[k],zNp e (gM hv j)=true)\/e ∈ ws++(gM hv k).deps:=by
   rintro(⟨j,hj,hf⟩ | he)
   ·exact .inl ⟨j,hsub j hj,hf⟩
   ·rcases List.mem_cons.1 he with rfl | he
    ·exact .inl ⟨k,hkm,(zSX.1 hk).2⟩
    ·exact .inr (List.mem_append.2 (.inl he))
  rcases he with he | ⟨j,hj,he⟩
  ·exact old (h.sat e (.inl he))
  ·rcases List.mem_append.1 hj with hj | hj
   ·exact old (h.sat e (.inr ⟨j,hj,he⟩))
   ·simp at hj;subst hj
    exact .inr (List.mem_append.2 (.inr he))
theorem Run.sound {hv:List Man}{wants:List Dep}{bd:Nat}{st:St}{s s':Nat}{r:Res}(h:Run hv bd st s r s'):zAfY hv wants st->∀ l,r = .ok l->zY8 hv wants l []:=by
 induction h with
 | done=>intro hp l e;cases e;exact hp
 | @has ch d ws s s' k r h1 h2 _ ih =>
  intro hp l e
  have hp:zY8 hv wants ch (d :: ws):=hp
  refine ih ⟨hp.nm,hp.nr,hp.rc,fun e he=>hp.aw e (by simp[he]),fun e he=>?_⟩ l e
  rcases hp.sat e he with h | h
  ·exact .inl h
  ·rcases List.mem_cons.1 h with rfl | h
   ·exact .inl ⟨k,(zY6 h1).1,h2⟩
   ·exact .inr h
 | no=>intro _ l e;cases e
 | @go ch d ws s s' r h1 _ ih=>intro hp l e;exact ih ⟨d,hp,h1,fun k hk=>hk⟩ l e
 | none=>intro _ l e;cases e
 | over=>intro _ l e;cases e
 | clash _ _ _ ih =>
  intro hp l e
  obtain⟨d,h1,h2,h3⟩:=hp
  exact ih ⟨d,h1,h2,fun k hk=>h3 k (by simp[hk])⟩ l e
 | down _ h2 _ _ ih =>
  intro hp l e
  obtain⟨d,p1,p2,p3⟩:=hp
  exact ih (p1.add p2 (p3 _ (by simp)) h2) l e
 | back _ _ _ _ _ ih' =>
  intro hp l e
  obtain⟨d,h1,h2,h3⟩:=hp
  exact ih' ⟨d,h1,h2,fun k hk=>h3 k (by simp[hk])⟩ l e
structure zAh9 (hv:List Man)(X:List Nat):Prop where
 nm:zHK hv X
 nr:zAee hv X
 cl:∀ k ∈ X,∀ d ∈ (gM hv k).deps,∃ j ∈ X,zNp d (gM hv j)=true
theorem zHK.same {hv:List Man}{X:List Nat}(h:zHK hv X){i j:Nat}(hi:i ∈ X)(hj:j ∈ X)(e:(gM hv i).name=(gM hv j).name):i=j:=by
 have hp:=List.pairwise_map.1 h.2
 obtain⟨a,ha,rfl⟩:=List.getElem_of_mem hi
 obtain⟨b,hb,rfl⟩:=List.getElem_of_mem hj
 have hq:=List.pairwise_iff_getElem.1 hp
 by_cases h1:a<b
 ·exact absurd e (hq a b ha hb h1)
 ·by_cases h2:b<a
  ·exact absurd e.symm (hq b a hb ha h2)
  ·have:a=b:=by omega
   subst this;rfl
def zAhq (hv:List Man)(X:List Nat):St->Prop
 | .sol ch ws=>(∀ k ∈ ch,k ∈ X)/\∀ d ∈ ws,∃ k ∈ X,zNp d (gM hv k)=true
 | .tri ch ws ks=>(∀ k ∈ ch,k ∈ X)/\(∀ d ∈ ws,∃ k ∈ X,zNp d (gM hv k)=true)/\∃ k ∈ X,k ∈ ks/\k ∉ ch
def zAap (hv:List Man)(l:List Nat):Prop:=l.Pairwise fun a b=>zK6 (gM hv a).name (gM hv b).name<0
theorem zAap.ext {hv:List Man}:∀ {l m:List Nat},zAap hv l->zAap hv m->(∀ k,k ∈ l↔k ∈ m)->l=m
 | [],[],_,_,_=>rfl
 | [],b :: m,_,_,h=>absurd ((h b).2 (by simp)) (by simp)
 | a :: l,[],_,_,h=>absurd ((h a).1 (by simp)) (by simp)
 | a :: l,b :: m,hl,hm,h=>by
  obtain⟨l1,l2⟩:=List.pairwise_cons.1 hl
  obtain⟨m1,m2⟩:=List.pairwise_cons.1 hm
  have irr:∀ x:Nat,¬ zK6 (gM hv x).name (gM hv x).name<0:=fun x hx=>by rw[zEL.self]at hx;omega
  have asym:∀ x y:Nat,zK6 (gM hv x).name (gM hv y).name<0->¬ zK6 (gM hv y).name (gM hv x).name<0:=fun x y h1 h2=>by
   have:=zEL.turn (gM hv x).name (gM hv y).name;omega
  have hab:a=b:=by
   rcases List.mem_cons.1 ((h a).1 (by simp)) with e | e
   ·exact e
   ·rcases List.mem_cons.1 ((h b).2 (by simp)) with e2 | e2
    ·exact e2.symm
    ·exact absurd (m1 a e) (asym _ _ (l1 b e2))
  subst hab
  congr 1
  refine zAap.ext l2 m2 fun k=>⟨fun hk=>?_,fun hk=>?_⟩
  ·rcases List.mem_cons.1 ((h k).1 (by simp[hk])) with e | e
   ·subst e;exact absurd (l1 k hk) (irr k)
   ·exact e
  ·rcases List.mem_cons.1 ((h k).2 (by simp[hk])) with e | e
   ·subst e;exact absurd (m1 k hk) (irr k)
   ·exact e
def zAcG (hv:List Man)(a b:Nat):Bool:=decide (zK6 (gM hv a).name (gM hv b).name<0)
def zEO (hv:List Man)(l:List Nat):List Nat:=zFs (zAcG hv) l
theorem zLy {hv:List Man}{l:List Nat}{k:Nat}:k ∈ zEO hv l↔k ∈ l:=zQ1
theorem zOd {hv:List Man}{l:List Nat}(h:zHK hv l):zAap hv (zEO hv l):=by
 have h1:=zPT zEL (fun k=>(gM hv k).name) (l:=l)
 have hp:(zEO hv l).Perm l:=zPt
 have h2:((zEO hv l).map fun k=>(gM hv k).name).Nodup:=((hp.map _).nodup_iff).2 h.2
 have h2:=List.pairwise_map.1 h2
 unfold zAap
 have h1':(zEO hv l).Pairwise fun a b=>zK6 (gM hv a).name (gM hv b).name<=0:=h1
 refine(h1'.and h2).imp fun {a b} ⟨q1,q2⟩=>?_
 have:zK6 (gM hv a).name (gM hv b).name≠0:=fun e=>q2 ((zEL.zero _ _).1 e)
 omega
theorem zHK.sorted {hv:List Man}{l:List Nat}(h:zHK hv l):zHK hv (zEO hv l):=by
 have hp:(zEO hv l).Perm l:=zPt
 exact⟨fun k hk=>h.1 k (zLy.1 hk),((hp.map _).nodup_iff).2 h.2⟩
structure zOS (hv:List Man)(wants:List Dep)(c:List Nat):Prop where
 nm:zHK hv c
 nr:zAee hv c
 sat:∀ d,(d ∈ wants\/∃ k ∈ c,d ∈ (gM hv k).deps)->∃ k ∈ c,zNp d (gM hv k)=true
section
variable {hv:List Man} {wants:List Dep} {c c' n m:List Nat}
theorem zY8.right (h:zY8 hv wants c []):zOS hv wants c:=⟨h.nm,h.nr,fun d hd=>(h.sat d hd).resolve_right (by simp)⟩
theorem zOS.perm (h:zOS hv wants c)(hp:c'.Perm c):zOS hv wants c' :=
 ⟨⟨fun k hk=>h.nm.1 k (hp.mem_iff.1 hk),((hp.map _).nodup_iff).2 h.nm.2⟩,fun i hi j hj hne=>h.nr i (hp.mem_iff.1 hi) j (hp.mem_iff.1 hj) hne,fun d hd=>by
  obtain⟨k,hk,hf⟩:=h.sat d (hd.imp id fun⟨k,hk,hd⟩=>⟨k,hp.mem_iff.1 hk,hd⟩)
  exact⟨k,hp.mem_iff.2 hk,hf⟩⟩
theorem zOS.comp (h:zOS hv wants c):zAhq hv c (.sol [] wants):=⟨fun k hk=>absurd hk (by simp),fun d hd=>h.sat d (.inl hd)⟩
def zs (l:List Nat):List Int:=l.map fun(k:Nat)=>(k:Int)
def zQ3 (hv:List Man)(wants:List Dep)(ch n:List Nat):Prop:=zAap hv n/\∀ k,k ∈ n↔Rch hv wants ch k
theorem zAap.nodup (h:zAap hv n):(n.map fun k=>(gM hv k).name).Nodup:=List.pairwise_map.2 (h.imp fun {a b} hlt e=>by rw[e,zEL.self]at hlt;omega)
theorem zQ3.one (h:zQ3 hv wants c n)(k:zQ3 hv wants c m):n=m:=h.1.ext k.1 fun j=>(h.2 j).trans (k.2 j).symm
theorem zQ3.right (h:zQ3 hv wants c n)(hR:zOS hv wants c):zOS hv wants n:=by
 have hsub:∀ k ∈ n,k ∈ c:=fun k hk=>((h.2 k).1 hk).mem
 refine⟨⟨fun k hk=>hR.nm.1 k (hsub k hk),h.1.nodup⟩,fun i hi j hj hne=>hR.nr i (hsub i hi) j (hsub j hj) hne,fun d hd=>?_⟩
 rcases hd with hd | ⟨k,hk,hd⟩
 ·obtain⟨j,hj,hf⟩:=hR.sat d (.inl hd)
  exact⟨j,(h.2 j).2 (.want hd hj (zLx hf)),hf⟩
 ·obtain⟨j,hj,hf⟩:=hR.sat d (.inr ⟨k,hsub k hk,hd⟩)
  exact⟨j,(h.2 j).2 (.dep ((h.2 k).1 hk) hd hj (zLx hf)),hf⟩
theorem zQ3.again (h:zQ3 hv wants c n)(k:zQ3 hv wants n m):m=n:=by
 refine k.1.ext h.1 fun j=>?_
 rw[k.2 j]
 constructor
 ·exact Rch.mem
 ·intro hj
  have hr:=(h.2 j).1 hj
  induction hr with
  | want hd hk hn=>exact .want hd hj hn
  | dep hi hd hk hn ih=>exact .dep (ih ((h.2 _).2 hi)) hd hj hn
theorem zQ3.all (h:zOS hv wants c)(hr:∀ k ∈ c,Rch hv wants c k):zQ3 hv wants c (zEO hv c) :=
 ⟨zOd h.nm,fun k=>⟨fun hk=>hr k (zLy.1 hk),fun hk=>zLy.2 hk.mem⟩⟩
structure zRy (hv:List Man)(wants:List Dep)(ch out:List Nat)(ws:List Dep):Prop where
 nd:out.Nodup
 rc:∀ k ∈ out,Rch hv wants ch k
 aw:∀ d ∈ ws,zY7 hv wants ch d
 cl:∀ d,(d ∈ wants\/∃ k ∈ out,d ∈ (gM hv k).deps)->d ∈ ws\/∃ k ∈ out,(gM hv k).name=d.name
theorem zRy.start:zRy hv wants c [] wants:=⟨List.nodup_nil,fun k h=>absurd h (by simp),fun d h => .inl h,fun d h=>by
 rcases h with h | ⟨k,hk,_⟩
 ·exact .inl h
 ·cases hk⟩
theorem zRy.old {d:Dep}{ws:List Dep}{out:List Nat}{k:Nat}(h:zRy hv wants c out (d :: ws))(hk:k ∈ out)(hn:(gM hv k).name=d.name):zRy hv wants c out ws :=
 ⟨h.nd,h.rc,fun e he=>h.aw e (by simp[he]),fun e he=>by
  rcases h.cl e he with h1 | h1
  ·rcases List.mem_cons.1 h1 with rfl | h1
   ·exact .inr ⟨k,hk,hn⟩
   ·exact .inl h1
  ·exact .inr h1⟩
theorem zRy.new {d:Dep}{ws:List Dep}{out:List Nat}{k:Nat}(h:zRy hv wants c out (d :: ws))(hk:k ∈ c)(hn:(gM hv k).name=d.name)(ho:k ∉ out):zRy hv wants c (out++[k]) (ws++(gM hv k).deps):=by
 have hr:Rch hv wants c k:=by
  rcases h.aw d (by simp) with hw | ⟨j,hj,hd⟩
  ·exact .want hw hk hn
  ·exact .dep hj hd hk hn
 refine⟨?_,?_,?_,?_⟩
 ·rw[List.nodup_append]
  refine⟨h.nd,by simp,fun a ha b hb e=>?_⟩
  simp at hb;subst hb;subst e;exact ho ha
 ·intro j hj
  rcases List.mem_append.1 hj with hj | hj
  ·exact h.rc j hj
  ·simp at hj;subst hj;exact hr
 ·intro e he
  rcases List.mem_append.1 he with he | he
  ·exact h.aw e (by simp[he])
  ·exact .inr ⟨k,hr,he⟩
 ·intro e he
  have old:e ∈ d :: ws\/(∃ j ∈ out,(gM hv j).name=e.name)->e ∈ ws++(gM hv k).deps\/∃ j ∈ out++[k],(gM hv j).name=e.name:=by
   rintro(h1 | ⟨j,hj,h1⟩)
   ·rcases List.mem_cons.1 h1 with rfl | h1
    ·exact .inr ⟨k,by simp,hn⟩
    ·exact .inl (List.mem_append.2 (.inl h1))
   ·exact .inr ⟨j,List.mem_append.2 (.inl hj),h1⟩
  rcases he with he | ⟨j,hj,he⟩
  ·exact old (h.cl e (.inl he))
  ·rcases List.mem_append.1 hj with hj | hj
   ·exact old (h.cl e (.inr ⟨j,hj,he⟩))
   ·simp at hj;subst hj
    exact .inl (List.mem_append.2 (.inr he))
theorem zRy.done {out:List Nat}(h:zRy hv wants c out [])(hN:zHK hv c):zQ3 hv wants c (zEO hv out):=by
 have hsub:∀ k ∈ out,k ∈ c:=fun k hk=>(h.rc k hk).mem
 have hno:zHK hv out:=by
  refine⟨fun k hk=>hN.1 k (hsub k hk),List.pairwise_map.2 ?_⟩
  exact h.nd.imp_of_mem fun {a b} ha hb hne e=>hne (hN.same (hsub a ha) (hsub b hb) e)
 refine⟨zOd hno,fun k=>⟨fun hk=>h.rc k (zLy.1 hk),fun hk=>zLy.2 ?_⟩⟩
 induction hk with
 | want hd hk hn =>
  rcases h.cl _ (.inl hd) with h1 | ⟨j,hj,h1⟩
  ·cases h1
  ·rw[<- hN.same (hsub j hj) hk (h1.trans hn.symm)];exact hj
 | dep hi hd hk hn ih =>
  rcases h.cl _ (.inr ⟨_,ih,hd⟩) with h1 | ⟨j,hj,h1⟩
  ·cases h1
  ·rw[<- hN.same (hsub j hj) hk (h1.trans hn.symm)];exact hj
end
abbrev Nm:=List UInt8
def zAef (hv:List Man)(c:List Nat)(n:Nm):List Nm:=match ofF hv c n with
 | some k=>(gM hv k).deps.map (·.name)
 | none=>[]
def zTj (hv:List Man)(c:List Nat)(name:Nm):Nat->Nm->Option (List Nm)
 | 0,x=>if x=name then some [x] else none
 | j+1,x=>((zAef hv c x).findSome? (zTj hv c name j)).map (x :: ·)
def zXo (hv:List Man)(c:List Nat)(name:Nm)(j:Nat)(ws:List Nm):Option (List Nm):=ws.findSome? (zTj hv c name j)
def zMr:List Nm->List (Nm×List Nm)->List (Nm×List Nm)
 | _,[]=>[]
 | seen,e :: t=>if e.1 ∈ seen then zMr seen t else e :: zMr (seen++[e.1]) t
def zPU (hv:List Man)(c:List Nat)(l:List (Nm×List Nm)):List (Nm×List Nm):=l.flatMap fun e=>(zAef hv c e.1).map fun y=>(y,e.2++[e.1])
inductive zR6 (hv:List Man) (c:List Nat) (name:Nm):List Nm->List (Nm×List Nm)->Option (List Nm)->Prop where
 | nil {seen:List Nm}:zR6 hv c name seen [] none
 | hit {seen:List Nm} {l:List (Nm×List Nm)} {pr:List Nm} (h:(name,pr) ∈ l):zR6 hv c name seen l (some (pr++[name]))
 | next {seen:List Nm} {l:List (Nm×List Nm)} {r:Option (List Nm)} (h0:l≠[]) (h:name ∉ l.map (·.1)) (hr:zR6 hv c name (seen++(zMr seen (zPU hv c l)).map (·.1)) (zMr seen (zPU hv c l)) r):zR6 hv c name seen l r
theorem zNq {β:Type}{g:Nm->Option β}{f:List Nm->β->β}:∀ {t:List (Nm×List Nm)} {seen:List Nm},(∀ y ∈ seen,g y=none)->t.findSome? (fun e=>(g e.1).map (f e.2))=(zMr seen t).findSome? fun e=>(g e.1).map (f e.2)
 | [],_,_=>rfl
 | e :: t,seen,h=>by
  rw[zMr,List.findSome?_cons]
  by_cases he:e.1 ∈ seen
  ·rw[if_pos he,h _ he]
   exact zNq h
  ·rw[if_neg he,List.findSome?_cons]
   cases hg:g e.1 with
   | some v=>rfl
   | none =>
    exact zNq fun y hy=>by
     rcases List.mem_append.1 hy with hy | hy
     ·exact h y hy
     ·simp at hy;subst hy;exact hg
theorem zOT {e:Nm×List Nm}:∀ {t:List (Nm×List Nm)} {seen:List Nm},e ∈ zMr seen t->e ∈ t/\e.1 ∉ seen
 | [],_,h=>by cases h
 | a :: t,seen,h=>by
  rw[zMr]at h
  split at h
  ·obtain⟨h1,h2⟩:=zOT h
   exact⟨List.mem_cons_of_mem _ h1,h2⟩
  ·rename_i ha
   rcases List.mem_cons.1 h with rfl | h
   ·exact⟨by simp,ha⟩
   ·obtain⟨h1,h2⟩:=zOT h
    exact⟨List.mem_cons_of_mem _ h1,fun hm=>h2 (List.mem_append.2 (.inl hm))⟩
theorem zOe:∀ {t:List (Nm×List Nm)} {seen:List Nm},seen.Nodup->(seen++(zMr seen t).map (·.1)).Nodup
 | [],seen,h=>by simpa [zMr] using h
 | a :: t,seen,h=>by
  rw[zMr]
  split
  ·exact zOe h
  ·rename_i ha
   have h2:(seen++[a.1]).Nodup:=by
    rw[List.nodup_append]
    exact⟨h,by simp,fun x hx y hy e=>by simp at hy;subst hy;subst e;exact ha hx⟩
   have:=zOe (t:=t) h2
   simpa [List.append_assoc] using this
section
variable {hv:List Man} {c:List Nat} {name:Nm} {ws:List Nm}
theorem zY9 {j:Nat}:zXo hv c name j ws=none↔∀ x ∈ ws,zTj hv c name j x=none:=List.findSome?_eq_none_iff
structure zAe0 (hv:List Man)(c:List Nat)(name:Nm)(ws:List Nm)(m:Nat)(seen:List Nm)(l:List (Nm×List Nm)):Prop where
 fa:∀ j,(∀ i,i<m+j->zXo hv c name i ws=none)->zXo hv c name (m+j) ws=l.findSome? fun e=>(zTj hv c name j e.1).map (e.2 ++ ·)
 fb:∀ y ∈ seen,∃ i,i<=m/\∀ j,zTj hv c name j y≠none->zXo hv c name (i+j) ws≠none
 fl:∀ e ∈ l,∀ j,zTj hv c name j e.1≠none->zXo hv c name (m+j) ws≠none
 fc:∀ i,i<m->zXo hv c name i ws=none
 fd:∀ e ∈ l,e.2.length=m
theorem zAbB {α β γ:Type}{f:α->Option β}{g:β->γ}{l:List α}:(l.findSome? f).map g=l.findSome? fun x=>(f x).map g:=by
 induction l with
 | nil=>rfl
 | cons a l ih =>
  rw[List.findSome?_cons,List.findSome?_cons]
  cases f a with
  | some b=>rfl
  | none=>exact ih
theorem zZa {α β γ:Type}{g:α->List β}{f:β->Option γ}{l:List α}:(l.flatMap g).findSome? f=l.findSome? fun x=>(g x).findSome? f:=by
 induction l with
 | nil=>rfl
 | cons a l ih =>
  rw[List.flatMap_cons,List.findSome?_append,List.findSome?_cons,ih]
  cases (g a).findSome? f <;> rfl
theorem zR7 {α β γ:Type}{g:α->β}{f:β->Option γ}{l:List α}:(l.map g).findSome? f=l.findSome? fun x=>f (g x):=by
 induction l with
 | nil=>rfl
 | cons a l ih =>
  rw[List.map_cons,List.findSome?_cons,List.findSome?_cons,ih]
theorem zAe0.start:zAe0 hv c name ws 0 ((zMr [] (ws.map fun y=>(y,[]))).map (·.1)) (zMr [] (ws.map fun y=>(y,[]))):=by
 have hm:∀ e ∈ zMr [] (ws.map fun y=>(y,([]:List Nm))),e.1 ∈ ws/\e.2=[]:=fun e he=>by
  obtain⟨h1,_⟩:=zOT he
  obtain⟨y,hy,rfl⟩:=List.mem_map.1 h1
  exact⟨hy,rfl⟩
 have hG:∀ y ∈ ws,∀ j,zTj hv c name j y≠none->zXo hv c name j ws≠none:=fun y hy j hj hn=>hj (zY9.1 hn y hy)
 refine⟨fun j _=>?_,fun y hy=>?_,fun e he j hj=>?_,fun i hi=>absurd hi (by omega),fun e he=>by rw[(hm e he).2];rfl⟩
 ·rw[<- zNq (f:=fun pr p=>pr++p) (fun y hy=>absurd hy (by simp)),zR7,Nat.zero_add]
  unfold zXo
  congr 1
  funext x
  cases zTj hv c name j x <;> rfl
 ·obtain⟨e,he,rfl⟩:=List.mem_map.1 hy
  exact⟨0,Nat.le_refl _,fun j hj=>by rw[Nat.zero_add];exact hG _ (hm e he).1 j hj⟩
 ·rw[Nat.zero_add];exact hG _ (hm e he).1 j hj
theorem zAe0.next {m:Nat}{seen:List Nm}{l:List (Nm×List Nm)}(h:zAe0 hv c name ws m seen l)(hn:name ∉ l.map (·.1)):zAe0 hv c name ws (m+1) (seen++(zMr seen (zPU hv c l)).map (·.1)) (zMr seen (zPU hv c l)):=by
 have hm:∀ e ∈ zMr seen (zPU hv c l),∃ x ∈ l,e.1 ∈ zAef hv c x.1/\e.2=x.2++[x.1]:=fun e he=>by
  obtain⟨h1,_⟩:=zOT he
  obtain⟨x,hx,h2⟩:=List.mem_flatMap.1 h1
  obtain⟨y,hy,rfl⟩:=List.mem_map.1 h2
  exact⟨x,hx,hy,rfl⟩
 have hl:∀ e ∈ zMr seen (zPU hv c l),∀ j,zTj hv c name j e.1≠none->zXo hv c name (m+1+j) ws≠none:=fun e he j hj=>by
  obtain⟨x,hx,hy,_⟩:=hm e he
  have:zTj hv c name (j+1) x.1≠none:=fun hno=>by
   rw[zTj,Option.map_eq_none_iff]at hno
   exact hj (List.findSome?_eq_none_iff.1 hno _ hy)
  have:=h.fl x hx (j+1) this
  rwa [show m+(j+1)=m+1+j by omega]at this
 have h0:zXo hv c name m ws=none:=by
  have:=h.fa 0 h.fc
  rw[Nat.add_zero]at this
  rw[this,List.findSome?_eq_none_iff]
  intro e he
  rw[zTj,if_neg (fun e1=>hn (List.mem_map.2 ⟨e,he,e1⟩))];rfl
 refine⟨fun j hj=>?_,fun y hy=>?_,hl,fun i hi=>?_,fun e he=>?_⟩
 ·rw[<- zNq (f:=fun pr p=>pr++p) (fun y hy=>?_)]
  ·have:=h.fa (j+1) (fun i hi=>hj i (by omega))
   rw[show m+1+j=m+(j+1) by omega,this]
   unfold zPU
   rw[zZa]
   congr 1
   funext e
   rw[zR7,zTj,Option.map_map,zAbB]
   congr 1
   funext y
   cases zTj hv c name j y with
   | none=>rfl
   | some p=>simp
  ·obtain⟨i,hi,hb⟩:=h.fb y hy
   cases hf:zTj hv c name j y with
   | none=>rfl
   | some p=>exact absurd (hj (i+j) (by omega)) (hb j (by rw[hf];simp))
 ·rcases List.mem_append.1 hy with hy | hy
  ·obtain⟨i,hi,hb⟩:=h.fb y hy
   exact⟨i,by omega,hb⟩
  ·obtain⟨e,he,rfl⟩:=List.mem_map.1 hy
   exact⟨m+1,Nat.le_refl _,hl e he⟩
 ·by_cases e:i=m
  ·subst e;exact h0
  ·exact h.fc i (by omega)
 ·obtain⟨x,hx,_,e2⟩:=hm e he
  rw[e2,List.length_append,h.fd x hx];rfl
theorem zR6.ways {seen:List Nm}{l:List (Nm×List Nm)}{r:Option (List Nm)}(h:zR6 hv c name seen l r):∀ {m:Nat},zAe0 hv c name ws m seen l->(l.map (·.1)).Nodup->seen.Nodup ->
  (∀ p,r=some p->∃ n,p.length=n+1/\zXo hv c name n ws=some p/\∀ i,i<n->zXo hv c name i ws=none)/\(r=none->∀ i,zXo hv c name i ws=none):=by
 induction h with
 | nil =>
  intro m hI _ _
  refine⟨fun p e=>absurd e (by simp),fun _ i=>?_⟩
  by_cases hi:i<m
  ·exact hI.fc i hi
  ·obtain⟨j,rfl⟩:∃ j,i=m+j:=⟨i - m,by omega⟩
   induction j using Nat.strongRecOn with
   | ind j ih =>
    rw[hI.fa j fun i hi'=>?_]
    ·rfl
    ·by_cases h1:i<m
     ·exact hI.fc i h1
     ·obtain⟨j',rfl⟩:∃ j',i=m+j':=⟨i - m,by omega⟩
      exact ih j' (by omega) h1
 | @hit seen l pr hm =>
  intro m hI hnd _
  refine⟨fun p e=>?_,fun e=>absurd e (by simp)⟩
  cases e
  refine⟨m,by rw[List.length_append,hI.fd _ hm];rfl,?_,hI.fc⟩
  have:=hI.fa 0 hI.fc
  rw[Nat.add_zero]at this
  rw[this]
  have hone:∀ {l:List (Nm×List Nm)},(name,pr) ∈ l->(l.map (·.1)).Nodup->(l.findSome? fun e=>(zTj hv c name 0 e.1).map (e.2 ++ ·))=some (pr++[name]):=by
   intro l
   induction l with
   | nil=>intro h;cases h
   | cons a l ih =>
    intro h hn
    rw[List.map_cons]at hn
    obtain⟨n1,n2⟩:=List.nodup_cons.1 hn
    rw[List.findSome?_cons]
    by_cases ha:a.1=name
    ·rcases List.mem_cons.1 h with rfl | h
     ·rw[zTj,if_pos rfl];rfl
     ·exact absurd (List.mem_map.2 ⟨_,h,ha.symm⟩) n1
    ·rcases List.mem_cons.1 h with rfl | h
     ·exact absurd rfl ha
     ·rw[zTj,if_neg ha]
      exact ih h n2
  exact hone hm hnd
 | @next seen l r h0 hn _ ih =>
  intro m hI hnd hs
  have:=zOe (t:=zPU hv c l) hs
  exact ih (hI.next hn) (List.nodup_append.1 this).2.1 this
end
end Go.Proofs.YticdfkoncnnmmaaGreatDoor
