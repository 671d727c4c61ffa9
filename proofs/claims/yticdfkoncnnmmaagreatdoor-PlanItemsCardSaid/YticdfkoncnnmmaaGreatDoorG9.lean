import Derived.Test.YticdfkoncnnmmaaGreatDoorG8
import Derived.Test.YticdfkoncnnmmaaGreatDoorG7
set_option linter.unusedSimpArgs false
set_option linter.unusedVariables false
set_option maxRecDepth 100000
namespace Go.Proofs.YticdfkoncnnmmaaGreatDoor
open Go.X Go.X.Diff
theorem zBM {b w:Bool}{yes:(Value->zAd->Prop)->Prop}{no:(Value->zAd->Prop)->Prop}{rest:Value->zAd->Prop}(h:b=w)(hy:yes rest):J1 (fun k=>Mif (.bool b) w (yes k) (no k)) rest:=zAF.2 (zAl.2 (by rw[if_pos h];exact hy))
theorem zJe {b w:Bool}{yes:(Value->zAd->Prop)->Prop}{H:zAd}{rest:Value->zAd->Prop}(h:b≠w)(hy:rest undef H):J1 (fun k=>Mif (.bool b) w (yes k) (k undef H)) rest:=zAF.2 (zAl.2 (by rw[if_neg h];exact hy))
abbrev zH3 (l:List Int):List (List Value):=zFB (l.map (Value.int .i64))
abbrev MV:=Man×Value×Value×Value
def mvC (x:MV):List Value:=zEN x.1 x.2.1 x.2.2.1 x.2.2.2
abbrev zA7 (mv:List MV):List Man:=mv.map (·.1)
def zK7 (vh vw:Value)(b:Int):List Value:=[vh,vw,.int .i64 b]
structure Prb (P:Nat->Prop)(H:zAd)(mv:List MV)(wants:List Dep)(vh vw:Value):Prop where
 h:SlE 8 P H vh (mv.map mvC)
 m:∀ x ∈ mv,zJJ P H x.1 x.2.1 x.2.2.1 x.2.2.2
 w:SlE 6 P H vw (wants.map zDa)
 ww:∀ d ∈ wants,d.wf
 sm:∀ x ∈ mv,x.1.deps.length<=1000/\x.1.conf.length<=1000
theorem Prb.keep {P S:Nat->Prop}{H H':zAd}{mv:List MV}{wants:List Dep}{vh vw:Value}(h:Prb P H mv wants vh vw)(k:Keep S H H')(hs:∀ b,P b->¬ S b):Prb P H' mv wants vh vw :=
 ⟨h.h.keep k hs,fun x hx=>(h.m x hx).keep k hs,h.w.keep k hs,h.ww,h.sm⟩
theorem zZd {mv:List MV}{k:Nat}{x:MV}(h:mv[k]? = some x):gM (zA7 mv) k=x.1:=by
 unfold gM
 exact zQ5 (by rw[List.getElem?_map,h];rfl)
theorem Prb.at {P:Nat->Prop}{H:zAd}{mv:List MV}{wants:List Dep}{vh vw:Value}(h:Prb P H mv wants vh vw){k:Nat}(hk:k<(zA7 mv).length):∃ x,mv[k]? = some x/\gM (zA7 mv) k=x.1/\x ∈ mv/\zJJ P H x.1 x.2.1 x.2.2.1 x.2.2.2/\∃ b o,(∀ q,ixS 8 vh (.int q k)=some (Ptr b o))/\Pt H b o (mvC x)/\P b:=by
 rw[List.length_map]at hk
 have hg:mv[k]? = some mv[k]:=List.getElem?_eq_getElem hk
 have hm:mv[k] ∈ mv:=List.getElem_mem hk
 exact⟨mv[k],hg,zZd hg,hm,h.m _ hm,h.h.at (x:=mvC mv[k]) (by rw[List.getElem?_map,hg];rfl)⟩
theorem zVl {h:zAd}{b o:Nat}{x:MV}(p:Pt h b o (mvC x)):ld1 h (Ptr b o)=some (str x.1.name):=p.cell0 rfl
theorem zUe {h:zAd}{b o:Nat}{x:MV}(p:Pt h b o (mvC x))(hw:x.1.wf):ldN 4 h (Ptr b (o+1))=some (.agg (zCt x.1.ver).toArray):=by
 have e:mvC x=[str x.1.name]++zCt x.1.ver++[x.2.1,x.2.2.1,x.2.2.2]:=by simp[mvC,zEN]
 rw[e]at p
 exact(p.mid (A:=[str x.1.name]) (B:=zCt x.1.ver) (o':=o+1) rfl).agg (zBD hw.ver)
theorem zKf {h:zAd}{b o:Nat}{x:MV}(p:Pt h b o (mvC x))(hw:x.1.wf):ldN 8 h (Ptr b o)=some (.agg (mvC x).toArray):=p.agg (zAH hw)
def zAgM (fv:Value)(xs:List Int)(del:Int->Bool)(G:zAd->Prop):Prop:=∀ (n:Int) (h:zAd),n ∈ xs->G h->zBF prg fv [.int .i64 n] h fun u h'=>u = .bool (del n)/\Keep (fun _=>False) h h'
theorem zR9 {G:zAd->Prop}{P:Nat->Prop}{H:zAd}{v fv:Value}{xs:List Int}{del:Int->Bool}(hv:SlE 1 P H v (zH3 xs))(hd:zAgM fv xs del G)(hG:∀ h,Keep (fun _=>False) H h->G h)(hl:xs.length<=1099511627776) :
  zAg prg zB3 [v,fv] H fun u H'=>Keep (fun _=>False) H H'/\((u = .int .i64 (-1)/\∀ x ∈ xs,del x=false)\/∃ i:Nat,u = .int .i64 (i:Nat)/\(∀ x ∈ xs.take i,del x=false)/\∃ x,xs[i]? = some x/\del x=true):=by
 apply zGO
 unfold zEW
 have hlen:=hv.len
 rw[zTN,List.length_map]at hlen
 refine zL2 (fun _ h=>(∀ x ∈ xs,del x=false)/\Keep (fun _=>False) H h) (fun k1 hk1=>?_) ?_
 ·rw[hlen,zAa]
  refine zHU (fun u h=>∃ i:Nat,i<=xs.length/\u = .int .i64 (i:Nat)/\(∀ x ∈ xs.take i,del x=false)/\Keep (fun _=>False) H h) (fun u _=>match u with | .int _ t=>xs.length - t.toNat | _=>0) ⟨0,Nat.zero_le _,rfl,by simp,Keep.refl⟩ ?_
  rintro _ h ⟨i,hi,rfl,hno,kh⟩ k hk
  rw[zMs,zAa,zAc]
  by_cases hlt:i<xs.length
  ·rw[if_pos (by simpa using hlt)]
   have hg:xs[i]? = some xs[i]:=List.getElem?_eq_getElem hlt
   have hm:xs[i] ∈ xs:=List.getElem_mem hlt
   generalize xs[i]=x at *
   obtain⟨b,o,hix,hpt,_⟩:=(hv.keep kh fun _ _=>id).at (i:=i) (x:=[.int .i64 x]) (zLe (by rw[List.getElem?_map,hg];rfl))
   rw[hix .i64,zAa,hpt.cell0 rfl,zAa]
   refine(hd x h hm (hG h kh)).mono ?_
   rintro _ h5 ⟨rfl,k5⟩
   rw[zAc]
   cases hdx:del x
   ·rw[if_neg (by decide),zAG (by omega),zAa]
    refine hk _ _ ⟨i+1,by omega,rfl,fun t ht=>?_,kh.trans k5⟩ (by show xs.length - (i+1)<xs.length - i;omega)
    rw[List.take_add_one,hg]at ht
    rcases List.mem_append.1 ht with ht | ht
    ·exact hno t ht
    ·obtain rfl:t=x:=by simpa using ht
     exact hdx
   ·rw[if_pos rfl]
    exact⟨kh.trans k5,.inr ⟨i,rfl,hno,x,hg,hdx⟩⟩
  ·rw[if_neg (by simpa using hlt)]
   rw[List.take_of_length_le (by omega)]at hno
   exact hk1 _ _ ⟨hno,kh⟩
 rintro _ h ⟨hno,kh⟩
 exact⟨kh,.inl ⟨rfl,hno⟩⟩
theorem zAhr {n:Nat}:zAh .no .geq (.int .i64 (n:Nat)) (.int .i64 0)=some (.bool true):=by
 rw[zAi];simp only[zA9];rw[decide_eq_true (by omega)]
theorem zAbG {n:Nat}:zAh .no .lss (.int .i64 (n:Nat)) (.int .i64 0)=some (.bool false):=by
 rw[zAi];simp only[zA9];rw[decide_eq_false (by omega)]
theorem zSZ {G:zAd->Prop}{P:Nat->Prop}{H:zAd}{v fv:Value}{xs:List Int}{del:Int->Bool}(hv:SlE 1 P H v (zH3 xs))(hd:zAgM fv xs del G)(hG:∀ h,Keep (fun _=>False) H h->G h)(hl:xs.length<=1099511627776) :
  zAg prg zCD [v,fv] H fun u H'=>u = .bool (xs.any del)/\Keep (fun _=>False) H H':=by
 apply zFO
 unfold zD8
 refine zAk (zR9 hv hd hG hl) ?_
 rintro _ h1 ⟨k1,⟨rfl,hno⟩ | ⟨i,rfl,hno,x,hg,hx⟩⟩
 ·have e:zAh .no .geq (.int .i64 (-1)) (.int .i64 0)=some (.bool false):=rfl
  rw[e,zAa]
  refine⟨?_,k1⟩
  rw[List.any_eq_false.2 fun x hx=>by simp[hno x hx]]
 ·rw[zAhr,zAa]
  refine⟨?_,k1⟩
  rw[List.any_eq_true.2 ⟨x,List.mem_of_getElem? hg,hx⟩]
theorem zAhs {P:Nat->Prop}{H:zAd}{mv:List MV}{wants:List Dep}{vh vw:Value}{b:Int}{q r:Nat}{nm:List UInt8}{k:Nat}(hp:Prb P H mv wants vh vw)(aq:At H q (zK7 vh vw b))(ar:At H r [str nm])(hk:k<(zA7 mv).length) :
  zAg prg zC7 [.int .i64 (k:Nat),Ptr q 0,Ptr r 0] H fun u H'=>u = .bool (decide ((gM (zA7 mv) k).name=nm))/\Keep (fun _=>False) H H':=by
 apply zJ7
 unfold zIO
 obtain⟨x,hx,hgx,hxm,hmv,bb,o,hix,hpt,_⟩:=hp.at hk
 have d0:ld1 H (Ptr q 0)=some vh:=aq.ld rfl
 have dr:ld1 H (Ptr r 0)=some (str nm):=ar.ld rfl
 rw[zAx,zAa,Nat.add_zero,d0,zAa,hix .i64,zAa,zAx,zAa,Nat.add_zero,zVl hpt,zAa,dr,zAa,zBX,zAa,hgx]
 exact⟨rfl,Keep.refl⟩
theorem zNS {ch:List Nat}{n:Int}(h:n ∈ zs ch):∃ k ∈ ch,n=(k:Int):=by
 unfold zs at h
 obtain⟨k,hk,rfl⟩:=List.mem_map.1 h
 exact⟨k,hk,rfl⟩
theorem zAfZ {ch:List Nat}{i k:Nat}(h:ch[i]? = some k):(zs ch)[i]? = some (k:Int):=by unfold zs;rw[List.getElem?_map,h];rfl
theorem zNT {ch:List Nat}:(zs ch).length=ch.length:=by simp[zs]
theorem zAek {ch:List Nat}{i:Nat}{n:Int}(h:(zs ch)[i]? = some n):∃ k,ch[i]? = some k/\n=(k:Int):=by
 unfold zs at h
 rw[List.getElem?_map]at h
 obtain⟨k,h1,h2⟩:=Option.map_eq_some_iff.1 h
 exact⟨k,h1,h2.symm⟩
theorem zAel {ch:List Nat}{i:Nat}:(zs ch).take i=zs (ch.take i):=by simp[zs,List.map_take]
theorem zZe {ch:List Nat}{k:Nat}(h:k ∈ ch):(k:Int) ∈ zs ch:=List.mem_map.2 ⟨k,h,rfl⟩
theorem zAiE {P Q:Nat->Prop}{H:zAd}{mv:List MV}{wants:List Dep}{vh vw vc:Value}{b:Int}{nm:List UInt8}{ch:List Nat}(hp:Prb P H mv wants vh vw)(hc:SlE 1 Q H vc (zH3 (zs ch)))(hk:∀ k ∈ ch,k<(zA7 mv).length)(hl:ch.length<=1099511627776) :
  zAg prg zHi [.agg (zK7 vh vw b).toArray,vc,str nm] H fun u H'=>u=(match ofF (zA7 mv) ch nm with | some k => .tuple #[.int .i64 (k:Nat),.bool true] | none => .tuple #[.int .i64 0,.bool false])/\Keep (fun _=>False) H H':=by
 apply zKX
 unfold zJ4
 simp only[zAN,zAs]
 generalize hH1:H.push (.cells (zK7 vh vw b).toArray zAL (0,0))=H1
 have k1:Keep (fun _=>False) H H1:=by rw[<- hH1];exact Keep.push
 have a1:At H1 H.size (zK7 vh vw b):=by rw[<- hH1];exact At.push
 generalize hH2:H1.push (.cells (Value.cells (str nm)) zAz (0,0))=H2
 have k2:Keep (fun _=>False) H1 H2:=by rw[<- hH2];exact Keep.push
 have a2:At H2 H1.size [str nm]:=by rw[<- hH2];exact At.push
 have k02:=k1.trans k2
 let del:Int->Bool:=fun n=>decide ((gM (zA7 mv) n.toNat).name=nm)
 have hd:zAgM (.func (.func zC7) #[] #[Ptr H.size 0,Ptr H1.size 0]) (zs ch) del (fun h=>Keep (fun _=>False) H2 h):=fun n h hn kh=>by
  obtain⟨k,hkm,rfl⟩:=zNS hn
  refine .inl ⟨zC7,#[],#[Ptr H.size 0,Ptr H1.size 0],rfl,by kernel_rfl,?_⟩
  exact zAhs (hp.keep (k02.trans kh) fun _ _=>id) ((a1.keep k2 id).keep kh id) (a2.keep kh id) (hk k hkm)
 refine zAk (zR9 (hc.keep k02 fun _ _=>id) hd (fun h kh=>kh) (by rw[zNT];exact hl)) ?_
 rintro _ h3 ⟨k3,⟨rfl,hno⟩ | ⟨i,rfl,hno,x,hg,hx⟩⟩
 ·have e:zAh .no .lss (.int .i64 (-1)) (.int .i64 0)=some (.bool true):=rfl
  have:ofF (zA7 mv) ch nm=none:=List.find?_eq_none.2 fun k hk=>by
   have:=hno _ (zZe hk)
   simpa [del] using this
  rw[e,zAa,zAc,if_pos rfl,this]
  exact⟨rfl,k02.trans k3⟩
 ·obtain⟨k,hgk,rfl⟩:=zAek hg
  have:ofF (zA7 mv) ch nm=some k:=zYS (i:=i) (fun p hp=>by
   have:=hno (p:Int) (by rw[zAel];exact zZe hp)
   simpa [del] using this) hgk (by simpa [del] using hx)
  obtain⟨bb,o,hix,hpt,_⟩:=((hc.keep k02 fun _ _=>id).keep k3 fun _ _=>id).at (i:=i) (x:=[.int .i64 (k:Int)]) (zLe (by rw[List.getElem?_map,hg];rfl))
  rw[zAbG,zAa,zAc,if_neg (by decide),hix .i64,zAa,hpt.cell0 rfl,zAa,this]
  exact⟨rfl,k02.trans k3⟩
def zAib (fv:Value)(xs:List Dep)(del:Dep->Bool)(G:zAd->Prop):Prop:=∀ (n:Dep) (h:zAd),n ∈ xs->G h->zBF prg fv [.agg (zDa n).toArray] h fun u h'=>u = .bool (del n)/\Keep (fun _=>False) h h'
theorem zOV {G:zAd->Prop}{P:Nat->Prop}{H:zAd}{v fv:Value}{xs:List Dep}{del:Dep->Bool}(hv:SlE 6 P H v (xs.map zDa))(hw:∀ d ∈ xs,d.wf)(hd:zAib fv xs del G)(hG:∀ h,Keep (fun _=>False) H h->G h)(hl:xs.length<=1099511627776) :
  zAg prg zAX [v,fv] H fun u H'=>u = .bool (xs.any del)/\Keep (fun _=>False) H H':=by
 apply zCN
 unfold zBA
 refine zAk (R:=fun u H'=>Keep (fun _=>False) H H'/\((u = .int .i64 (-1)/\∀ x ∈ xs,del x=false)\/∃ (i:Nat) (x:Dep),u = .int .i64 (i:Nat)/\x ∈ xs/\del x=true)) ?_ ?_
 ·apply zDh
  unfold zBQ
  have hlen:=hv.len
  rw[List.length_map]at hlen
  refine zL2 (fun _ h=>(∀ x ∈ xs,del x=false)/\Keep (fun _=>False) H h) (fun k1 hk1=>?_) ?_
  ·rw[hlen,zAa]
   refine zHU (fun u h=>∃ i:Nat,i<=xs.length/\u = .int .i64 (i:Nat)/\(∀ x ∈ xs.take i,del x=false)/\Keep (fun _=>False) H h) (fun u _=>match u with | .int _ t=>xs.length - t.toNat | _=>0) ⟨0,Nat.zero_le _,rfl,by simp,Keep.refl⟩ ?_
   rintro _ h ⟨i,hi,rfl,hno,kh⟩ k hk
   rw[zMs,zAa,zAc]
   by_cases hlt:i<xs.length
   ·rw[if_pos (by simpa using hlt)]
    have hg:xs[i]? = some xs[i]:=List.getElem?_eq_getElem hlt
    have hm:xs[i] ∈ xs:=List.getElem_mem hlt
    generalize xs[i]=x at *
    obtain⟨b,o,hix,hpt,_⟩:=(hv.keep kh fun _ _=>id).at (i:=i) (x:=zDa x) (by rw[List.getElem?_map,hg];rfl)
    rw[hix .i64,zAa,hpt.agg (zB7 (hw x hm)),zAa]
    refine(hd x h hm (hG h kh)).mono ?_
    rintro _ h5 ⟨rfl,k5⟩
    rw[zAc]
    cases hdx:del x
    ·rw[if_neg (by decide),zAG (by omega),zAa]
     refine hk _ _ ⟨i+1,by omega,rfl,fun t ht=>?_,kh.trans k5⟩ (by show xs.length - (i+1)<xs.length - i;omega)
     rw[List.take_add_one,hg]at ht
     rcases List.mem_append.1 ht with ht | ht
     ·exact hno t ht
     ·obtain rfl:t=x:=by simpa using ht
      exact hdx
    ·rw[if_pos rfl]
     exact⟨kh.trans k5,.inr ⟨i,x,rfl,hm,hdx⟩⟩
   ·rw[if_neg (by simpa using hlt)]
    rw[List.take_of_length_le (by omega)]at hno
    exact hk1 _ _ ⟨hno,kh⟩
  rintro _ h ⟨hno,kh⟩
  exact⟨kh,.inl ⟨rfl,hno⟩⟩
 ·rintro _ h1 ⟨k1,⟨rfl,hno⟩ | ⟨i,x,rfl,hm,hx⟩⟩
  ·have e:zAh .no .geq (.int .i64 (-1)) (.int .i64 0)=some (.bool false):=rfl
   rw[e,zAa]
   refine⟨?_,k1⟩
   rw[List.any_eq_false.2 fun x hx=>by simp[hno x hx]]
  ·rw[zAhr,zAa]
   refine⟨?_,k1⟩
   rw[List.any_eq_true.2 ⟨x,hm,hx⟩]
theorem zZf {h:zAd}{q:Nat}{d:Dep}(a:At h q (zDa d)):ld1 h (Ptr q 0)=some (str d.name):=a.ld rfl
theorem zS0 {h:zAd}{q:Nat}{d:Dep}(a:At h q (zDa d))(hd:d.wf):ldN 5 h (Ptr q 1)=some (.agg (zDl d.want).toArray):=by
 obtain⟨T,a⟩:=a
 exact ldN_mid (A:=[str d.name]) (B:=zDl d.want) (C:=[]) (by rw[List.append_nil];exact a) rfl (zEs hd.want).symm
theorem zUf {P Q:Nat->Prop}{H:zAd}{x y:MV}(hx:zJJ P H x.1 x.2.1 x.2.2.1 x.2.2.2)(hy:y.1.wf)(hl:x.1.conf.length<=1000)(hO:zNR H) :
  zAg prg zHm [.agg (mvC x).toArray,.agg (mvC y).toArray] H fun u H'=>u = .bool (zXO x.1 y.1)/\Keep (fun _=>False) H H':=by
 apply zMo
 unfold zMa
 simp only[zAN,zAs]
 generalize hH1:H.push (.cells (mvC x).toArray zAb (0,0))=H1
 have k1:Keep (fun _=>False) H H1:=by rw[<- hH1];exact Keep.push
 have a1:At H1 H.size (zEN x.1 x.2.1 x.2.2.1 x.2.2.2):=by rw[<- hH1];exact At.push
 generalize hH2:H1.push (.cells (mvC y).toArray zAb (0,0))=H2
 have k2:Keep (fun _=>False) H1 H2:=by rw[<- hH2];exact Keep.push
 have a2:At H2 H1.size (zEN y.1 y.2.1 y.2.2.1 y.2.2.2):=by rw[<- hH2];exact At.push
 have k02:=k1.trans k2
 have d6:=(zE9 (a1.keep k2 id) hx.wf).2.1
 rw[zAx,zAa,Nat.zero_add,d6,zAa]
 have hd:zAib (.func (.func zEh) #[] #[Ptr H1.size 0]) x.1.conf (fun d=>zNp d y.1) (fun h=>Keep (fun _=>False) H2 h):=fun d h hm kh=>by
  refine .inl ⟨zEh,#[],#[Ptr H1.size 0],rfl,by kernel_rfl,?_⟩
  have hdw:=hx.wf.conf d hm
  show zAg prg zEh [.agg (zDa d).toArray,Ptr H1.size 0] h _
  apply zLq
  unfold zKE
  simp only[zAN,zAs]
  generalize hH3:h.push (.cells (zDa d).toArray zAj (0,0))=h3
  have k3:Keep (fun _=>False) h h3:=by rw[<- hH3];exact Keep.push
  have a3:At h3 h.size (zDa d):=by rw[<- hH3];exact At.push
  have b3:=(a2.keep kh id).keep k3 id
  have e:=fun q=>zBX (q:=q) (a:=d.name) (b:=y.1.name)
  rw[zAx,zAa,Nat.add_zero,zZf a3,zAa,zAx,zAa,Nat.add_zero,zBE b3,zAa,e,zAa]
  unfold zNp
  have ec:decide (y.1.name=d.name)=decide (d.name=y.1.name):=by rw[decide_eq_decide];exact eq_comm
  rw[ec]
  cases hn:decide (d.name=y.1.name)
  ·simp only[zAF,zAl,Bool.false_eq_true,if_false,zAe,zAa,Bool.false_and]
   exact⟨by trivial,k3⟩
  ·refine zBM rfl ?_
   rw[zAx,zAa,Nat.zero_add,zS0 a3 hdw,zAa,zAx,zAa,Nat.zero_add,zFK b3 hy,zAa]
   refine zAk (zPr hdw.want hy.ver (hO.keep (k02.trans (kh.trans k3)) fun _ h=>h.elim)) ?_
   rintro _ h4 ⟨rfl,k4⟩
   rw[zAe,if_pos rfl,zAa,Bool.true_and]
   exact⟨rfl,k3.trans k4⟩
 refine zAk (zOV (hx.c.keep k02 fun _ _=>id) hx.wf.conf hd (fun h kh=>kh) (by omega)) ?_
 rintro _ h3 ⟨rfl,k3⟩
 exact⟨rfl,k02.trans k3⟩
theorem zAem {P Q:Nat->Prop}{H:zAd}{mv:List MV}{wants:List Dep}{vh vw vc:Value}{b:Int}{ch:List Nat}{k:Nat}(hp:Prb P H mv wants vh vw)(hc:SlE 1 Q H vc (zH3 (zs ch)))(hk:∀ k ∈ ch,k<(zA7 mv).length)(hkk:k<(zA7 mv).length)(hl:ch.length<=1099511627776)(hO:zNR H) :
  zAg prg zFw [.agg (zK7 vh vw b).toArray,vc,.int .i64 (k:Nat)] H fun u H'=>u = .bool (zM3 (zA7 mv) ch k)/\Keep (fun _=>False) H H':=by
 apply zJF
 unfold zH1
 simp only[zAN,zAs]
 generalize hH1:H.push (.cells (zK7 vh vw b).toArray zAL (0,0))=H1
 have k1:Keep (fun _=>False) H H1:=by rw[<- hH1];exact Keep.push
 have a1:At H1 H.size (zK7 vh vw b):=by rw[<- hH1];exact At.push
 generalize hH2:H1.push (.cells (Value.cells (.int .i64 (k:Nat))) zGd (0,0))=H2
 have k2:Keep (fun _=>False) H1 H2:=by rw[<- hH2];exact Keep.push
 have a2:At H2 H1.size [.int .i64 (k:Nat)]:=by rw[<- hH2];exact At.push
 have k02:=k1.trans k2
 let del:Int->Bool:=fun n=>zXO (gM (zA7 mv) n.toNat) (gM (zA7 mv) k) || zXO (gM (zA7 mv) k) (gM (zA7 mv) n.toNat)
 have hd:zAgM (.func (.func zCf) #[] #[Ptr H.size 0,Ptr H1.size 0]) (zs ch) del (fun h=>Keep (fun _=>False) H2 h):=fun n h hn kh=>by
  obtain⟨i,him,rfl⟩:=zNS hn
  refine .inl ⟨zCf,#[],#[Ptr H.size 0,Ptr H1.size 0],rfl,by kernel_rfl,?_⟩
  show zAg prg zCf [.int .i64 (i:Nat),Ptr H.size 0,Ptr H1.size 0] h _
  have hph:=hp.keep (k02.trans kh) fun _ _=>id
  have aq:=(a1.keep k2 id).keep kh id
  have ar:=a2.keep kh id
  have hOh:=hO.keep (k02.trans kh) fun _ h=>h.elim
  apply zIQ
  unfold zGZ
  obtain⟨x,hx,hgx,hxm,hmx,bx,ox,hix,hpx,_⟩:=hph.at (hk i him)
  obtain⟨y,hy,hgy,hym,hmy,by',oy,hiy,hpy,_⟩:=hph.at hkk
  have d0:∀ g,Keep (fun _=>False) h g->ld1 g (Ptr H.size 0)=some vh:=fun g kg=>(aq.keep kg id).ld rfl
  have dr:∀ g,Keep (fun _=>False) h g->ld1 g (Ptr H1.size 0)=some (.int .i64 (k:Nat)):=fun g kg=>(ar.keep kg id).ld rfl
  rw[zAx,zAa,Nat.add_zero,d0 _ Keep.refl,zAa,hix .i64,zAa,zKf hpx hmx.wf,zAa]
  simp only[zAx,Nat.add_zero,zAa]
  rw[d0 _ Keep.refl,zAa,dr _ Keep.refl,zAa,hiy .i64,zAa,zKf hpy hmy.wf,zAa]
  refine zAk (zUf (Q:=P) hmx hmy.wf (hp.sm x hxm).2 hOh) ?_
  rintro _ h1 ⟨rfl,k1'⟩
  have ei:del (i:Int)=(zXO x.1 y.1 || zXO y.1 x.1):=by
   show(zXO (gM (zA7 mv) (i:Int).toNat) (gM (zA7 mv) k) || _)=_
   rw[show((i:Int)).toNat=i from rfl,hgx,hgy]
  rw[ei]
  cases hr:zXO x.1 y.1
  ·refine zBM rfl ?_
   rw[d0 _ k1',zAa,dr _ k1',zAa,hiy .i64,zAa,zKf (hpy.keep k1' id) hmy.wf,zAa,zAa,hix .i64,zAa,zKf (hpx.keep k1' id) hmx.wf,zAa]
   refine zAk (zUf (Q:=P) (hmy.keep k1' fun _ _=>id) hmx.wf (hp.sm y hym).2 (hOh.keep k1' fun _ h=>h.elim)) ?_
   rintro _ h3 ⟨rfl,k3⟩
   rw[zAe,if_neg (by decide),zAa,Bool.false_or]
   exact⟨rfl,k1'.trans k3⟩
  ·refine zJe (by decide) ?_
   rw[zAe,if_pos rfl,zAa,Bool.true_or]
   exact⟨rfl,k1'⟩
 refine zAk (zSZ (hc.keep k02 fun _ _=>id) hd (fun h kh=>kh) (by rw[zNT];exact hl)) ?_
 rintro _ h3 ⟨rfl,k3⟩
 refine⟨?_,k02.trans k3⟩
 unfold zM3 zs
 rw[List.any_map];rfl
theorem zXs {H:zAd}{u:Nat}(hu:u<256):zAg prg zCJ [.int .u64 (u:Nat)] H fun v H'=>(∃ m:Nat,v = .int .i64 (m:Nat))/\H=H':=by
 apply zE6
 unfold zGC
 rw[zAc,if_neg (by decide)]
 refine zAk (R:=fun v H'=>(∃ m:Nat,v = .int .i64 (m:Nat))/\H=H') ?_ fun v h hR=>hR
 apply zCX
 unfold zDV
 have ge:∀ (b:Nat),u<b->zAh .no .geq (.int .u64 (u:Nat)) (.int .u64 (b:Nat))=some (.bool false):=fun b hb=>by
  rw[zAi];simp only[zA9];rw[decide_eq_false (by omega)]
 have g1:zAh .no .geq (.int .u64 (u:Nat)) (.int .u64 4294967296)=some (.bool false):=ge 4294967296 (by omega)
 have g2:zAh .no .geq (.int .u64 (u:Nat)) (.int .u64 65536)=some (.bool false):=ge 65536 (by omega)
 have g3:zAh .no .geq (.int .u64 (u:Nat)) (.int .u64 256)=some (.bool false):=ge 256 (by omega)
 simp only[zYq,g1,g2,g3,zAa,zAc,Bool.false_eq_true,if_false]
 exact zNi (R:=fun v _=>(∃ m:Nat,v = .int .i64 (m:Nat))/\True) (H:=H) (off:=0) (x:=u) hu (by omega) ⟨⟨_,rfl⟩,trivial⟩
def zAe2 (fv:Value)(xs:List Int)(lt:Int->Int->Bool)(G:zAd->Prop):Prop:=∀ (a b:Int) (h:zAd),a ∈ xs->b ∈ xs->G h->zBF prg fv [.int .i64 a,.int .i64 b] h fun u h'=>(∃ n:Int,u = .int .i64 n/\decide (n<0)=lt a b)/\Keep (fun _=>False) h h'
theorem zWw {l:List Int}{i:Nat}{n:Int}:(zH3 l).set i [.int .i64 n]=zH3 (l.set i n):=by simp[zFB,List.map_set]
theorem zOW {l:List Int}{i:Nat}{n:Int}(h:l[i]? = some n):(zH3 l)[i]? = some [.int .i64 n]:=zLe (by rw[List.getElem?_map,h];rfl)
theorem zKI {l:List Int}:(zH3 l).length=l.length:=by simp
theorem zAbH {A R:List Int}{x y:Int}:((A++y :: x :: R).set (A.length+1) y).set A.length x=A++x :: y :: R:=by
 rw[List.set_append_right _ _ (by omega)]
 rw[show A.length+1 - A.length=1 by omega]
 rw[List.set_append_right _ _ (by omega),Nat.sub_self]
 rfl
theorem zXt {i:Nat}(h:i+1<=9223372036854775807):zAh .no .sub (.int .i64 ((i+1:Nat):Int)) (.int .i64 1)=some (.int .i64 (i:Nat)):=by
 rw[zAi];simp only[zA9];rw[zAM (by omega) (by omega)];congr 2;omega
theorem zZg {α:Type}{lt:α->α->Bool}{x:α}:zFs lt [x]=[x]:=rfl
theorem zZh {α:Type}{lt:α->α->Bool}{x y:α}{ys:List α}:zQc lt x (y :: ys)=if lt x y=true then y :: zQc lt x ys else x :: y :: ys:=by rw[zQc]
set_option maxHeartbeats 2000000 in
theorem zVm {F G:zAd->Prop}{Fb:Nat->Prop}{H:zAd}{v fv:Value}{xs:List Int}{lt:Int->Int->Bool}(hv:BufE 1 Fb H v (zH3 xs))(hc:zAe2 fv xs lt G)(hG:∀ h,Keep Fb H h->G h)(hl:xs.length<=1000) :
  zAg prg zBv [v,.int .i64 0,.int .i64 (xs.length:Nat),fv] H fun _ H'=>BufE 1 Fb H' v (zH3 (zFs lt xs))/\Keep Fb H H':=by
 apply zFr
 unfold zDG
 have e01:zAh .no .add (.int .i64 0) (.int .i64 1)=some (.int .i64 ((1:Nat):Int)):=rfl
 rw[e01,zAa]
 have hx0:xs=zFs lt (xs.take 1)++xs.drop 1:=by
  cases xs with
  | nil=>rfl
  | cons a l=>simp[zZg]
 refine zHU (fun u h=>∃ i:Nat,1<=i/\i<=xs.length+1/\u = .int .i64 (i:Nat)/\BufE 1 Fb h v (zH3 (zFs lt (xs.take i)++xs.drop i))/\Keep Fb H h) (fun u _=>match u with | .int _ t=>xs.length+1 - t.toNat | _=>0) ⟨1,Nat.le_refl _,by omega,rfl,by rw[<- hx0];exact hv,Keep.refl⟩ ?_
 rintro _ h ⟨i,hi1,hi,rfl,hb,kh⟩ kk hkk
 rw[zMs,zAa,zAc]
 by_cases hlt:i<xs.length
 rotate_left
 ·rw[if_neg (by simpa using hlt)]
  rw[List.take_of_length_le (by omega),List.drop_eq_nil_of_le (by omega),List.append_nil]at hb
  exact⟨hb,kh⟩
 rw[if_pos (by simpa using hlt)]
 have hg:xs[i]? = some xs[i]:=List.getElem?_eq_getElem hlt
 have hmx:xs[i] ∈ xs:=List.getElem_mem hlt
 have hdr:xs.drop i=xs[i] :: xs.drop (i+1):=List.drop_eq_getElem_cons hlt
 have htk:xs.take (i+1)=xs.take i++[xs[i]]:=by rw[List.take_add_one,hg];rfl
 have hlen:(zFs lt (xs.take i)).length=i:=by rw[zUa,List.length_take];omega
 have hmem:∀ y ∈ zFs lt (xs.take i),y ∈ xs:=fun y hy=>List.mem_of_mem_take (zQ1.1 hy)
 have hins:zFs lt (xs.take (i+1))=(zQc lt xs[i] (zFs lt (xs.take i)).reverse).reverse:=by
  rw[htk];unfold zFs
  rw[zGQ,List.reverse_reverse]
 rw[hdr]at hb
 generalize xs[i]=x at *
 generalize hS:zFs lt (xs.take i)=S at *
 generalize hR:xs.drop (i+1)=R at *
 refine zLf (fun _ _ h'=>BufE 1 Fb h' v (zH3 (zFs lt (xs.take (i+1))++R))/\Keep Fb H h') (fun k3 hk3=>?_) ?_
 rotate_left
 ·rintro _ _ h' ⟨hb',kh'⟩
  rw[zAG (by omega),zAa]
  exact hkk _ _ ⟨i+1,by omega,by omega,rfl,by rw[hR];exact hb',kh'⟩ (by show xs.length+1 - (i+1)<xs.length+1 - i;omega)
 refine zHU (fun u h'=>∃ (A B:List Int),u = .int .i64 (A.length:Nat)/\S=A++B/\zQc lt x S.reverse=B.reverse++zQc lt x A.reverse/\BufE 1 Fb h' v (zH3 (A++x :: (B++R)))/\Keep Fb H h') (fun u _=>match u with | .int _ t=>t.toNat | _=>0) ⟨S,[],by rw[hlen],by simp,by simp,by simpa using hb,kh⟩ ?_
 rintro _ h' ⟨A,B,rfl,hAB,hin,hb',kh'⟩ k5 hk5
 have hAl:A.length<=1000:=by
  have:S.length=A.length+B.length:=by rw[hAB,List.length_append]
  omega
 have g0:zAh .no .gtr (.int .i64 (A.length:Nat)) (.int .i64 0)=some (.bool (decide (A.length > 0))):=zZc (m:=0)
 rw[g0,zAa]
 rcases List.eq_nil_or_concat A with rfl | ⟨A',y,hA⟩
 ·refine zJe (by decide) ?_
  rw[zAe]
  show Mpu (some (.bool false)) _
  rw[zAa,zAc,if_neg (by decide)]
  refine hk3 _ _ _ ⟨?_,kh'⟩
  have:zFs lt (xs.take (i+1))=x :: B:=by
   rw[hins,hin];simp[zQc]
  rw[this];simpa using hb'
 ·rw[List.concat_eq_append]at hA
  subst hA
  have hAl':(A'++[y]).length=A'.length+1:=by simp
  rw[hAl',decide_eq_true (by omega)]
  have eL:A'++[y]++x :: (B++R)=A'++y :: x :: (B++R):=by simp
  rw[eL]at hb'
  have gx:(A'++y :: x :: (B++R))[A'.length+1]? = some x:=by
   rw[List.getElem?_append_right (by omega)];simp
  have gy:(A'++y :: x :: (B++R))[A'.length]? = some y:=by
   rw[List.getElem?_append_right (by omega)];simp
  have hym:y ∈ xs:=hmem y (by rw[hAB];simp)
  obtain⟨bx,ox,hix,hpx,_⟩:=hb'.sl.at (zOW gx)
  obtain⟨by',oy,hiy,hpy,_⟩:=hb'.sl.at (zOW gy)
  refine zBM rfl ?_
  rw[hix .i64,zAa,hpx.cell0 rfl,zAa,zXt (by omega),zAa,hiy .i64,zAa,hpy.cell0 rfl,zAa]
  refine(hc x y h' hmx hym (hG h' kh')).mono ?_
  rintro _ h8 ⟨⟨n,rfl,hn⟩,k8⟩
  have en:zAh .no .lss (.int .i64 n) (.int .i64 0)=some (.bool (decide (n<0))):=ltI
  have hb8:=hb'.keep k8 fun _ _=>id
  have kh8:Keep Fb H h8:=kh'.trans (k8.mono fun _ _ h=>h.elim)
  rw[en,zAa,hn]
  show Mpu (zAC (.bool true) (.bool (lt x y)) (.bool false)) _
  rw[zAe,if_pos rfl,zAa,zAc]
  have hrev:(A'++[y]).reverse=y :: A'.reverse:=by simp
  rw[hrev,zZh]at hin
  cases hxy:lt x y
  ·rw[if_neg (by decide)]
   rw[hxy,if_neg (by decide)]at hin
   refine hk3 _ _ _ ⟨?_,kh8⟩
   have:zFs lt (xs.take (i+1))=A'++y :: x :: B:=by
    rw[hins,hin];simp
   rw[this];simpa using hb8
  ·rw[if_pos rfl]
   rw[hxy,if_pos rfl]at hin
   obtain⟨b1,o1,h10,i1,p1,st1',hb10,k10⟩:=hb8.st (zOW gx) (j:=0) (by omega) (w := .int .i64 y) rfl
   have e1:([Value.int .i64 x]).set 0 (.int .i64 y)=[.int .i64 y]:=rfl
   rw[e1,zWw]at hb10
   have gy2:((A'++y :: x :: (B++R)).set (A'.length+1) y)[A'.length]? = some y:=by
    rw[List.getElem?_set_ne (by omega)];exact gy
   obtain⟨b2,o2,h11,i2,p2,st2',hb11,k11⟩:=hb10.st (zOW gy2) (j:=0) (by omega) (w := .int .i64 x) rfl
   have e2:([Value.int .i64 y]).set 0 (.int .i64 x)=[.int .i64 x]:=rfl
   rw[e2,zWw,zAbH]at hb11
   have hpx8:=hpx.keep k8 id
   have hpy8:=hpy.keep k8 id
   have ly:ld1 h8 (Ptr by' oy)=some (.int .i64 y):=hpy8.cell0 rfl
   have lx:ld1 h8 (Ptr bx ox)=some (.int .i64 x):=hpx8.cell0 rfl
   simp only[zAa,hiy .i64,hix .i64,ly,lx]
   have j1:Ptr bx ox=Ptr b1 o1:=Option.some.inj ((hix .i64).symm.trans (i1 .i64))
   have j2:Ptr by' oy=Ptr b2 o2:=Option.some.inj ((hiy .i64).symm.trans (i2 .i64))
   rw[Nat.add_zero]at st1' st2'
   rw[j1,st1',zAm,j2,st2',zAm]
   refine hk5 _ _ ⟨A',y :: B,rfl,by rw[hAB];simp,?_,by simpa using hb11,(kh8.trans k10).trans k11⟩ ?_
   ·rw[hin];simp
   ·show A'.length<(A'++[y]).length;omega
theorem zAen {body:(Value->Value->Value->Value->Value->zAd->Prop)->Value->Value->Value->Value->Value->zAd->Prop}{a b c d e:Value}{H:zAd}(hs:∀ k:Value->Value->Value->Value->Value->zAd->Prop,body k a b c d e H):L5 body a b c d e H:=by
 refine⟨fun vs h=>vs=[a,b,c,d,e]/\h=H,fun _ _=>0,⟨rfl,rfl⟩,?_⟩
 rintro vs h _ ⟨rfl,rfl⟩
 exact hs _
theorem zZi {G:zAd->Prop}{Fb:Nat->Prop}{H:zAd}{v fv:Value}{xs:List Int}{lt:Int->Int->Bool}(hv:BufE 1 Fb H v (zH3 xs))(hc:zAe2 fv xs lt G)(hG:∀ h,Keep Fb H h->G h)(hl:xs.length<=12) :
  zAg prg zBi [v,fv] H fun _ H'=>BufE 1 Fb H' v (zH3 (zFs lt xs))/\Keep Fb H H':=by
 apply zDF
 unfold zDg
 have hlen:=hv.sl.len
 rw[zKI]at hlen
 have cv:cvI .u64 (.int .i64 (xs.length:Nat))=some (.int .u64 (xs.length:Nat)):=by
  rw[zDr]
  congr 2
  simp only[IntKind.wrap,IntKind.bits,IntKind.signed]
  simp;omega
 rw[hlen,zAa,cv,zAa]
 refine zAk (zXs (by omega)) ?_
 rintro _ _ ⟨⟨m,rfl⟩,rfl⟩
 refine zAk (R:=fun _ H'=>BufE 1 Fb H' v (zH3 (zFs lt xs))/\Keep Fb H H') ?_ fun _ h hR=>hR
 apply zHc
 unfold zFi
 refine zAen fun k=>?_
 have es:zAh .no .sub (.int .i64 (xs.length:Nat)) (.int .i64 0)=some (.int .i64 (xs.length:Nat)):=by
  rw[zAi];simp only[zA9];rw[Int.sub_zero,zAM (by omega) (by omega)]
 have el:zAh .no .leq (.int .i64 (xs.length:Nat)) (.int .i64 12)=some (.bool true):=by
  rw[zAi];simp only[zA9];rw[decide_eq_true (by omega)]
 rw[es,zAa,el,zAa,zAc,if_pos rfl]
 exact zAk (zVm (F:=G) hv hc hG (by omega)) fun _ h hR=>hR
def zUg (hv:List Man)(i:Nat):Bool:=(hv.take i).any fun o=>decide (o.name=(gM hv i).name) && decide (o.ver=(gM hv i).ver)
def zM6 (hv:List Man)(i:Nat):Bool:=zEt (gM hv i) && !zUg hv i
def zQ6 (ws:List Dep):Bool:=ws.all fun d=>zG2 d.name && zFJ d.want
def zGw (hv:List Man)(ws:List Dep)(b:Int):Bool:=decide (0<=b) && decide (b<=65536) && (List.range hv.length).all (zM6 hv) && zQ6 ws
theorem zKJ:zAB prg zAb=some (zEN ⟨[],zB2,[],[],[]⟩ zAY zAY zAY).toArray:=by kernel_rfl
theorem zMt:(⟨[],zB2,[],[],[]⟩:Man).wf:=⟨by simp,zEM,(fun d h=>absurd h (by simp)),(fun d h=>absurd h (by simp)),(fun d h=>absurd h (by simp))⟩
theorem zWx:zAB prg zAj=some (zDa zNG).toArray:=by kernel_rfl
theorem zF7 {P:Nat->Prop}{H:zAd}{x:MV}(h:zJJ P H x.1 x.2.1 x.2.2.1 x.2.2.2):∀ c ∈ mvC x,c.oneCell'=true:=h.one
def zAic (fv:Value)(xs:List MV)(del:Man->Bool)(G:zAd->Prop):Prop:=∀ (x:MV) (h:zAd),x ∈ xs->G h->zBF prg fv [.agg (mvC x).toArray] h fun u h'=>u = .bool (del x.1)/\Keep (fun _=>False) h h'
theorem zLY {G:zAd->Prop}{P:Nat->Prop}{H:zAd}{v fv:Value}{xs:List MV}{del:Man->Bool}(hv:SlE 8 P H v (xs.map mvC))(hw:∀ x ∈ xs,x.1.wf)(hd:zAic fv xs del G)(hG:∀ h,Keep (fun _=>False) H h->G h)(hl:xs.length<=1099511627776) :
  zAg prg zAD [v,fv] H fun u H'=>u = .bool (xs.any fun x=>del x.1)/\Keep (fun _=>False) H H':=by
 apply zB1
 unfold zBg
 refine zAk (R:=fun u H'=>Keep (fun _=>False) H H'/\((u = .int .i64 (-1)/\∀ x ∈ xs,del x.1=false)\/∃ (i:Nat) (x:MV),u = .int .i64 (i:Nat)/\x ∈ xs/\del x.1=true)) ?_ ?_
 ·apply zBc
  unfold zBn
  have hlen:=hv.len
  rw[List.length_map]at hlen
  refine zL2 (fun _ h=>(∀ x ∈ xs,del x.1=false)/\Keep (fun _=>False) H h) (fun k1 hk1=>?_) ?_
  ·rw[hlen,zAa]
   refine zHU (fun u h=>∃ i:Nat,i<=xs.length/\u = .int .i64 (i:Nat)/\(∀ x ∈ xs.take i,del x.1=false)/\Keep (fun _=>False) H h) (fun u _=>match u with | .int _ t=>xs.length - t.toNat | _=>0) ⟨0,Nat.zero_le _,rfl,by simp,Keep.refl⟩ ?_
   rintro _ h ⟨i,hi,rfl,hno,kh⟩ k hk
   rw[zMs,zAa,zAc]
   by_cases hlt:i<xs.length
   ·rw[if_pos (by simpa using hlt)]
    have hg:xs[i]? = some xs[i]:=List.getElem?_eq_getElem hlt
    have hm:xs[i] ∈ xs:=List.getElem_mem hlt
    generalize xs[i]=x at *
    obtain⟨b,o,hix,hpt,_⟩:=(hv.keep kh fun _ _=>id).at (i:=i) (x:=mvC x) (by rw[List.getElem?_map,hg];rfl)
    rw[hix .i64,zAa,zKf hpt (hw x hm),zAa]
    refine(hd x h hm (hG h kh)).mono ?_
    rintro _ h5 ⟨rfl,k5⟩
    rw[zAc]
    cases hdx:del x.1
    ·rw[if_neg (by decide),zAG (by omega),zAa]
     refine hk _ _ ⟨i+1,by omega,rfl,fun t ht=>?_,kh.trans k5⟩ (by show xs.length - (i+1)<xs.length - i;omega)
     rw[List.take_add_one,hg]at ht
     rcases List.mem_append.1 ht with ht | ht
     ·exact hno t ht
     ·obtain rfl:t=x:=by simpa using ht
      exact hdx
    ·rw[if_pos rfl]
     exact⟨kh.trans k5,.inr ⟨i,x,rfl,hm,hdx⟩⟩
   ·rw[if_neg (by simpa using hlt)]
    rw[List.take_of_length_le (by omega)]at hno
    exact hk1 _ _ ⟨hno,kh⟩
  rintro _ h ⟨hno,kh⟩
  exact⟨kh,.inl ⟨rfl,hno⟩⟩
 ·rintro _ h1 ⟨k1,⟨rfl,hno⟩ | ⟨i,x,rfl,hm,hx⟩⟩
  ·have e:zAh .no .geq (.int .i64 (-1)) (.int .i64 0)=some (.bool false):=rfl
   rw[e,zAa]
   refine⟨?_,k1⟩
   rw[List.any_eq_false.2 fun x hx=>by simp[hno x hx]]
  ·rw[zAhr,zAa]
   refine⟨?_,k1⟩
   rw[List.any_eq_true.2 ⟨x,hm,hx⟩]
theorem zAeo {mv:List MV}{i:Nat}:(zA7 mv).take i=(mv.take i).map (·.1):=by simp[zA7,List.map_take]
theorem _root_.Go.X.SlE.pre {n:Nat}{P:Nat->Prop}{H:zAd}{v:Value}{xs:List (List Value)}(h:SlE n P H v xs){m:Nat}(hm:m<=xs.length):∃ u,slS n v none (some (.int .i64 (m:Nat))) none=some u/\SlE n P H u (xs.take m):=by
 by_cases hne:xs=[]
 ·subst hne
  have:m=0:=by simpa using hm
  subst this
  obtain⟨⟨a,c,rfl,hc,_⟩,_,_⟩:=h
  have hb:zKt 0 c none (some (.int .i64 0)) none=some (0,0,c):=by simp[zKt,bnd]
  have e0:((0:Nat):Int)=0:=rfl
  rw[e0]
  rcases a with _ | ⟨b,o,_ | sp⟩
  ·exact⟨.slice none 0 c,by simp[slS,hb],SlE.nil⟩
  ·exact⟨.slice (some ⟨b,if c=0 then o else o+0 * n,none⟩) 0 c,by simp[slS,hb],by simpa using SlE.nil⟩
  ·exact⟨.slice (some ⟨b,o,some sp⟩) 0 c,by simp[slS,hb],by simpa using SlE.nil⟩
 ·obtain⟨u,h1,h2⟩:=h.cut hne (lo:=0) (hi:=m) (Nat.zero_le _) hm (l:=none) (r:=some (.int .i64 (m:Nat))) rfl (fun c hc=>by simp[bnd];omega)
  rw[List.drop_zero]at h2
  exact⟨u,h1,h2⟩
set_option maxHeartbeats 4000000 in
theorem zZj {P:Nat->Prop}{H:zAd}{mv:List MV}{wants:List Dep}{vh vw:Value}{b:Int}(hp:Prb P H mv wants vh vw)(hl:mv.length<=256)(hwl:wants.length<=64)(hO:zNR H) :
  zAg prg zFv [.agg (zK7 vh vw b).toArray] H fun u H'=>u = .int .i64 (if zGw (zA7 mv) wants b then 0 else 10)/\Keep (fun _=>False) H H':=by
 apply zJE
 unfold zH0
 simp only[zAN,zAs,zAx,Nat.zero_add,Nat.add_zero,zAa]
 generalize hH1:H.push (.cells (zK7 vh vw b).toArray zAL (0,0))=H1
 have k1:Keep (fun _=>False) H H1:=by rw[<- hH1];exact Keep.push
 have a1:At H1 H.size (zK7 vh vw b):=by rw[<- hH1];exact At.push
 have d0:∀ h,Keep (fun _=>False) H1 h->ld1 h (Ptr H.size 0)=some vh:=fun h k=>(a1.keep k id).ld rfl
 have d1:∀ h,Keep (fun _=>False) H1 h->ld1 h (Ptr H.size 1)=some vw:=fun h k=>(a1.keep k id).ld rfl
 have d2:∀ h,Keep (fun _=>False) H1 h->ld1 h (Ptr H.size 2)=some (.int .i64 b):=fun h k=>(a1.keep k id).ld rfl
 have lh:=hp.h.len
 have lw:=hp.w.len
 rw[List.length_map]at lh lw
 have hvl:(zA7 mv).length=mv.length:=by simp
 have no:∀ h,Keep (fun _=>False) H h->zGw (zA7 mv) wants b=false->(Value.int .i64 10 = .int .i64 (if zGw (zA7 mv) wants b then 0 else 10)/\Keep (fun _=>False) H h):=fun h kh hf=>⟨by rw[hf];rfl,kh⟩
 have e1:zAh .no .gtr (.int .i64 (mv.length:Nat)) (.int .i64 256)=some (.bool false):=by
  rw[zAi];simp only[zA9];rw[decide_eq_false (by omega)]
 have e2:zAh .no .gtr (.int .i64 (wants.length:Nat)) (.int .i64 64)=some (.bool false):=by
  rw[zAi];simp only[zA9];rw[decide_eq_false (by omega)]
 rw[d0 _ Keep.refl,zAa,lh,zAa,e1,zAa]
 refine zBM rfl ?_
 rw[d1 _ Keep.refl,zAa,lw,zAa,e2,zAa]
 show Mpu (zAC (.bool false) (.bool true) (.bool false)) _
 rw[zAe,if_neg (by decide),zAa]
 refine zBM rfl ?_
 rw[d2 _ Keep.refl,zAa,ltI,zAa]
 show Mpu (zAC (.bool false) (.bool true) _) _
 rw[zAe,if_neg (by decide),zAa]
 cases q1:decide (b<0)
 rotate_left
 ·simp only[zAF,zAl,Bool.true_eq_false,if_false,zAe,if_true,zAa,zAc]
  refine no _ k1 ?_
  unfold zGw
  rw[decide_eq_false (show ¬ 0<=b by have:=of_decide_eq_true q1;omega)];rfl
 refine zBM rfl ?_
 rw[d2 _ Keep.refl,zAa,gtI,zAa]
 show Mpu (zAC (.bool false) (.bool true) _) _
 rw[zAe,if_neg (by decide),zAa,zAc]
 have hb0:0<=b:=by have:=of_decide_eq_false q1;omega
 cases q2:decide (b > 65536)
 rotate_left
 ·rw[if_pos rfl]
  refine no _ k1 ?_
  unfold zGw
  rw[decide_eq_true hb0,decide_eq_false (show ¬ b<=65536 by have:=of_decide_eq_true q2;omega)];rfl
 have hb1:b<=65536:=by have:=of_decide_eq_false q2;omega
 have hpo:zGw (zA7 mv) wants b=((List.range mv.length).all (zM6 (zA7 mv)) && zQ6 wants):=by
  unfold zGw
  rw[decide_eq_true hb0,decide_eq_true hb1,hvl];rfl
 rw[if_neg (by decide)]
 refine zL2 (fun _ h=>(List.range mv.length).all (zM6 (zA7 mv))=true/\Keep (fun _=>False) H1 h) (fun k hk=>?_) ?_
 ·rw[d0 _ Keep.refl,zAa,lh,zAa]
  refine zHU (fun u h=>∃ i:Nat,i<=mv.length/\u = .int .i64 (i:Nat)/\(List.range i).all (zM6 (zA7 mv))=true/\Keep (fun _=>False) H1 h) (fun u _=>match u with | .int _ t=>mv.length - t.toNat | _=>0) ⟨0,Nat.zero_le _,rfl,rfl,Keep.refl⟩ ?_
  rintro _ h ⟨i,hi,rfl,hall,kh⟩ kk hkk
  rw[zMs,zAa,zAc]
  by_cases hlt:i<mv.length
  rotate_left
  ·rw[if_neg (by simpa using hlt)]
   obtain rfl:i=mv.length:=by omega
   exact hk _ _ ⟨hall,kh⟩
  rw[if_pos (by simpa using hlt)]
  have k0h:=k1.trans kh
  obtain⟨x,hx,hgx,hxm,hmx,bx,ox,hix,hpx,_⟩:=(hp.keep k0h fun _ _=>id).at (k:=i) (by rw[hvl];exact hlt)
  rw[hix .i64,zAa,zKf hpx hmx.wf,zAa]
  simp only[zKJ,zAs]
  generalize hH12:h.push (.cells (zEN ⟨[],zB2,[],[],[]⟩ zAY zAY zAY).toArray zAb (0,0))=h12
  have k12:Keep (fun _=>False) h h12:=by rw[<- hH12];exact Keep.push
  have a12:At h12 h.size (zEN ⟨[],zB2,[],[],[]⟩ zAY zAY zAY):=by rw[<- hH12];exact At.push
  obtain⟨h13,st13,a13,k13⟩:=a12.st (n:=8) (ds:=mvC x) (zAH zMt) (zAH hmx.wf) (zF7 hmx)
  have gh:=kh.1
  have k113:Keep (fun _=>False) H1 h13:=(kh.trans k12).fresh k13 fun b hb=>by omega
  have k013:=k1.trans k113
  rw[st13,zAm,d0 _ k113,zAa]
  obtain⟨u,hu,hsu⟩:=(hp.keep k013 fun _ _=>id).h.pre (m:=i) (by rw[List.length_map];omega)
  have hmt:(mv.map mvC).take i=(mv.take i).map mvC:=by rw[List.map_take]
  rw[hmt]at hsu
  rw[hu,zAa]
  have hd:zAic (.func (.func zCe) #[] #[Ptr h.size 0]) (mv.take i) (fun o=>decide (o.name=x.1.name) && decide (o.ver=x.1.ver)) (fun g=>Keep (fun _=>False) h13 g):=fun y g hy kg=>by
   refine .inl ⟨zCe,#[],#[Ptr h.size 0],rfl,by kernel_rfl,?_⟩
   show zAg prg zCe [.agg (mvC y).toArray,Ptr h.size 0] g _
   have hyw:=(hp.m y (List.mem_of_mem_take hy)).wf
   apply zIN
   unfold zGY
   simp only[zAN,zAs]
   generalize hG1:g.push (.cells (mvC y).toArray zAb (0,0))=g1
   have kg1:Keep (fun _=>False) g g1:=by rw[<- hG1];exact Keep.push
   have ag:At g1 g.size (zEN y.1 y.2.1 y.2.2.1 y.2.2.2):=by rw[<- hG1];exact At.push
   have bg:At g1 h.size (zEN x.1 x.2.1 x.2.2.1 x.2.2.2):=(a13.keep kg id).keep kg1 id
   have e:=fun q=>zBX (q:=q) (a:=y.1.name) (b:=x.1.name)
   rw[zAx,zAa,Nat.add_zero,zBE ag,zAa,zAx,zAa,Nat.add_zero,zBE bg,zAa,e,zAa]
   cases hn:decide (y.1.name=x.1.name)
   ·refine zJe (by decide) ?_
    rw[zAe,if_neg (by decide),zAa,Bool.false_and]
    exact⟨rfl,kg1⟩
   ·refine zBM rfl ?_
    rw[zAx,zAa,Nat.zero_add,zFK ag hyw,zAa,zAx,zAa,Nat.zero_add,zFK bg hmx.wf,zAa,zAbm hyw.ver hmx.wf.ver,zAa]
    show Mpu (zAC (.bool true) _ (.bool false)) _
    rw[zAe,if_pos rfl,zAa,Bool.true_and]
    exact⟨rfl,kg1⟩
  refine zAk (zLY hsu (fun y hy=>(hp.m y (List.mem_of_mem_take hy)).wf) hd (fun g kg=>kg) (by rw[List.length_take];omega)) ?_
  rintro _ h14 ⟨rfl,k14⟩
  have htw:(mv.take i).any (fun y=>decide (y.1.name=x.1.name) && decide (y.1.ver=x.1.ver))=zUg (zA7 mv) i:=by
   unfold zUg
   rw[zAeo,List.any_map,hgx];rfl
  rw[htw]
  have a14:=a13.keep k14 id
  rw[a14.ldN (zAH hmx.wf),zAa]
  have k014:=k013.trans k14
  have hsm:=hp.sm x hxm
  have khh:Keep (fun _=>False) h h14:=(k12.fresh k13 fun b hb=>by omega).trans k14
  refine zAk (zQd (hmx.keep khh fun _ _=>id) (by omega) (by omega) (hO.keep k014 fun _ h=>h.elim)) ?_
  rintro _ h15 ⟨rfl,k15⟩
  have k115:=k113.trans (k14.trans k15)
  have hha:zM6 (zA7 mv) i=(zEt x.1 && !zUg (zA7 mv) i):=by unfold zM6;rw[hgx]
  have bad:zM6 (zA7 mv) i=false->zGw (zA7 mv) wants b=false:=fun hf=>by rw[hpo,zOU hlt hf];rfl
  rw[zAq,zAa]
  cases r1:zEt x.1
  ·refine zJe (by decide) ?_
   rw[Bool.not_false,zAe,if_pos rfl,zAa,zAc,if_pos rfl]
   exact no _ (k1.trans k115) (bad (by rw[hha,r1];rfl))
  ·refine zBM rfl ?_
   show Mpu (zAC (.bool false) (.bool true) (.bool (zUg (zA7 mv) i))) _
   rw[zAe,if_neg (by decide),zAa,zAc]
   cases r2:zUg (zA7 mv) i
   ·rw[if_neg (by decide),zAG (by omega),zAa]
    exact hkk _ _ ⟨i+1,by omega,rfl,zNr hall (by rw[hha,r1,r2];rfl),k115⟩ (by show mv.length - (i+1)<mv.length - i;omega)
   ·rw[if_pos rfl]
    exact no _ (k1.trans k115) (bad (by rw[hha,r1,r2];rfl))
 rintro _ h9 ⟨hall,k9⟩
 rw[hall,Bool.true_and]at hpo
 refine zL2 (fun _ h=>zQ6 wants=true/\Keep (fun _=>False) H1 h) (fun k hk=>?_) ?_
 ·rw[d1 _ k9,zAa,lw,zAa]
  refine zHU (fun u h=>∃ i:Nat,i<=wants.length/\u = .int .i64 (i:Nat)/\zQ6 (wants.take i)=true/\Keep (fun _=>False) H1 h) (fun u _=>match u with | .int _ t=>wants.length - t.toNat | _=>0) ⟨0,Nat.zero_le _,rfl,rfl,k9⟩ ?_
  rintro _ h ⟨i,hi,rfl,hok,kh⟩ kk hkk
  rw[zMs,zAa,zAc]
  by_cases hlt:i<wants.length
  rotate_left
  ·rw[if_neg (by simpa using hlt)]
   rw[List.take_of_length_le (by omega)]at hok
   exact hk _ _ ⟨hok,kh⟩
  rw[if_pos (by simpa using hlt)]
  have hg:wants[i]? = some wants[i]:=List.getElem?_eq_getElem hlt
  have hdm:wants[i] ∈ wants:=List.getElem_mem hlt
  have htk:wants.take (i+1)=wants.take i++[wants[i]]:=by rw[List.take_add_one,hg];rfl
  generalize wants[i]=d at *
  have hdw:=hp.ww d hdm
  have k0h:=k1.trans kh
  obtain⟨bd,od,hid,hpd,_⟩:=(hp.keep k0h fun _ _=>id).w.at (i:=i) (x:=zDa d) (by rw[List.getElem?_map,hg];rfl)
  rw[hid .i64,zAa,hpd.agg (zB7 hdw),zAa]
  simp only[zWx,zAs]
  generalize hH22:h.push (.cells (zDa zNG).toArray zAj (0,0))=h22
  have k22:Keep (fun _=>False) h h22:=by rw[<- hH22];exact Keep.push
  have a22:At h22 h.size (zDa zNG):=by rw[<- hH22];exact At.push
  obtain⟨h23,st23,a23,k23⟩:=a22.st (n:=6) (ds:=zDa d) (zB7 zNm) (zB7 hdw) zID
  have khh:Keep (fun _=>False) h h23:=k22.fresh k23 fun b hb=>by omega
  rw[st23,zAm]
  simp only[zAx,Nat.zero_add,Nat.add_zero,zAa]
  rw[zZf a23,zAa]
  refine zAk (zV4 hdw.name) ?_
  rintro _ h24 ⟨rfl,k24⟩
  have bad:(zG2 d.name && zFJ d.want)=false->zGw (zA7 mv) wants b=false:=fun hf=>by
   rw[hpo]
   exact List.all_eq_false.2 ⟨d,hdm,by simpa using hf⟩
  rw[zAq,zAa]
  cases r1:zG2 d.name
  ·refine zJe (by decide) ?_
   rw[Bool.not_false,zAe,if_pos rfl,zAa,zAc,if_pos rfl]
   exact no _ (k0h.trans (khh.trans k24)) (bad (by rw[r1];rfl))
  ·refine zBM rfl ?_
   rw[zS0 (a23.keep k24 id) hdw,zAa]
   have kall:=k0h.trans (khh.trans k24)
   refine zAk (zKc hdw.want (hO.keep kall fun _ h=>h.elim)) ?_
   rintro _ h26 ⟨rfl,k26⟩
   rw[zAq,zAa]
   show Mpu (zAC (.bool false) (.bool true) (.bool (!zFJ d.want))) _
   rw[zAe,if_neg (by decide),zAa,zAc]
   cases r2:zFJ d.want
   ·rw[if_pos (show(!false)=true from rfl)]
    exact no _ (kall.trans k26) (bad (by rw[r1,r2];rfl))
   ·rw[if_neg (by decide),zAG (by omega),zAa]
    refine hkk _ _ ⟨i+1,by omega,rfl,?_,kh.trans (khh.trans (k24.trans k26))⟩ (by show wants.length - (i+1)<wants.length - i;omega)
    rw[htk]
    unfold zQ6 at hok ⊢
    rw[List.all_append,hok];simp[r1,r2]
 rintro _ h19 ⟨hw,k19⟩
 exact⟨by rw[hpo,hw];rfl,k1.trans k19⟩
theorem zWy {α β:Type}{lt:α->α->Bool}{lt':β->β->Bool}{g:α->β}(h:∀ a b,lt' (g a) (g b)=lt a b){x:α}:∀ {l:List α},zQc lt' (g x) (l.map g)=(zQc lt x l).map g
 | []=>rfl
 | y :: l=>by
  rw[List.map_cons,zQc,zQc,h]
  split
  ·rw[zWy h,List.map_cons]
  ·rw[List.map_cons,List.map_cons]
theorem zZk {α β:Type}{lt:α->α->Bool}{lt':β->β->Bool}{g:α->β}(h:∀ a b,lt' (g a) (g b)=lt a b){l:List α}:zFs lt' (l.map g)=(zFs lt l).map g:=by
 unfold zFs
 rw[List.map_reverse]
 congr 1
 induction l using zOR with
 | h0=>rfl
 | h1 l x ih=>rw[List.map_append,List.map_cons,List.map_nil,zGQ,zGQ,ih,zWy h]
theorem zWz {lt:Nat->Nat->Bool}{l:List Nat}:zFs (fun a b=>lt a.toNat b.toNat) (zs l)=zs (zFs lt l):=zZk (g:=fun(k:Nat)=>(k:Int)) fun a b=>rfl
theorem zSa {P:Nat->Prop}{H:zAd}{v:Value}{xs:List Int}(hv:SlE 1 P H v (zH3 xs))(hl:xs.length<=1099511627776):zAg prg zCR [v] H fun u H'=>BufE 1 (fun b=>H.size<=b/\b<H'.size) H' u (zH3 xs)/\Keep (fun _=>False) H H':=by
 apply zIp
 unfold zGq
 obtain⟨⟨a,c,rfl,hc,hx⟩,h2,h3⟩:=hv
 cases a with
 | none =>
  have hnil:zH3 xs=[]:=by
   rcases hx with h | ⟨b,o,h,_⟩
   ·exact h
   ·cases h
  have e:zAh .slc .eql (.slice none (zH3 xs).length c) (.slice none 0 0)=some (.bool true):=rfl
  rw[e,zAa,zAc,if_pos rfl,hnil]
  exact⟨BufE.nil,Keep.refl⟩
 | some a =>
  have e:zAh .slc .eql (.slice (some a) (zH3 xs).length c) (.slice none 0 0)=some (.bool false):=rfl
  have b0:zFt prg zGd 0 []=some #[]:=by kernel_rfl
  rw[e,zAa,zAc,if_neg (by decide),b0,zAV]
  generalize hH1:H.push (.cells #[] zGd (0,0))=H1
  have k1:Keep (fun _=>False) H H1:=by rw[<- hH1];exact Keep.push
  have n1:H1[H.size]? = some (.cells #[] zGd (0,0)):=by rw[<- hH1];exact zAR
  have s1:H1.size=H.size+1:=by rw[<- hH1];simp
  have hb:BufE 1 (H.size <= ·) H1 (.slice (some ⟨H.size,0,none⟩) 0 0) []:=BufE.fresh (cs:=[]) ⟨H.size,rfl,Nat.le_refl _,n1⟩ (Nat.le_refl _) (by simp) (fun _ _=>by simp[zRB]) (by simp) (fun x h=>by cases h) (fun x h=>by cases h)
  have hv1:SlE 1 P H1 (.slice (some a) (zH3 xs).length c) (zH3 xs):=SlE.keep ⟨⟨_,c,rfl,hc,hx⟩,h2,h3⟩ k1 fun _ _=>id
  refine hb.app hv1 (by omega) (by simp;omega) (by show H.size<=H1.size;omega) fun u h2' hu k2=>?_
  rw[List.nil_append]at hu
  have k02:=k1.fresh k2 fun b hb=>hb
  exact⟨BufE.re hu fun b hb hF=>⟨hF,hb⟩,k02⟩
theorem zPw {P:Nat->Prop}{H:zAd}{v:Value}{xs:List Dep}(hv:SlE 6 P H v (xs.map zDa))(hl:xs.length<=1000000):zAg prg zAW [v] H fun u H'=>BufE 6 (fun b=>H.size<=b/\b<H'.size) H' u (xs.map zDa)/\Keep (fun _=>False) H H':=by
 apply zDK
 unfold zCm
 obtain⟨⟨a,c,rfl,hc,hx⟩,h2,h3⟩:=hv
 cases a with
 | none =>
  have hnil:xs.map zDa=[]:=by
   rcases hx with h | ⟨b,o,h,_⟩
   ·exact h
   ·cases h
  have e:zAh .slc .eql (.slice none (xs.map zDa).length c) (.slice none 0 0)=some (.bool true):=rfl
  rw[e,zAa,zAc,if_pos rfl,hnil]
  exact⟨BufE.nil,Keep.refl⟩
 | some a =>
  have e:zAh .slc .eql (.slice (some a) (xs.map zDa).length c) (.slice none 0 0)=some (.bool false):=rfl
  have b0:zFt prg zAj 0 []=some #[]:=by kernel_rfl
  rw[e,zAa,zAc,if_neg (by decide),b0,zAV]
  generalize hH1:H.push (.cells #[] zAj (0,0))=H1
  have k1:Keep (fun _=>False) H H1:=by rw[<- hH1];exact Keep.push
  have n1:H1[H.size]? = some (.cells #[] zAj (0,0)):=by rw[<- hH1];exact zAR
  have s1:H1.size=H.size+1:=by rw[<- hH1];simp
  have hb:BufE 6 (H.size <= ·) H1 (.slice (some ⟨H.size,0,none⟩) 0 0) []:=BufE.fresh (cs:=[]) ⟨H.size,rfl,Nat.le_refl _,n1⟩ (Nat.le_refl _) (by simp) (fun _ _=>by simp[zRB]) (by simp) (fun x h=>by cases h) (fun x h=>by cases h)
  have hv1:SlE 6 P H1 (.slice (some a) (xs.map zDa).length c) (xs.map zDa):=SlE.keep ⟨⟨_,c,rfl,hc,hx⟩,h2,h3⟩ k1 fun _ _=>id
  refine hb.app hv1 (by omega) (by simp;omega) (by show H.size<=H1.size;omega) fun u h2' hu k2=>?_
  rw[List.nil_append]at hu
  have k02:=k1.fresh k2 fun b hb=>hb
  exact⟨BufE.re hu fun b hb hF=>⟨hF,hb⟩,k02⟩
theorem zZl {z:Array Value}{n:Nat}(h0:0<z.size)(h:z.all (·.oneCell')=true):(zOZ z n).all (·.oneCell')=true:=by
 rw[Array.all_eq_true_iff_forall_mem]at h ⊢
 intro c hc
 unfold zOZ at hc
 obtain⟨i,_,rfl⟩:=Array.mem_map.1 hc
 have hlt:i % z.size<z.size:=Nat.mod_lt _ h0
 rw[getElem!_pos z (i % z.size) hlt]
 exact h _ (Array.getElem_mem hlt)
theorem zZm {z:Array Value}{n:Nat}:(zOZ z n).size=n:=by simp[zOZ]
theorem _root_.Go.X.BufE.cut0 {n:Nat}{F:Nat->Prop}{H:zAd}{b c:Nat}{cs:Array Value}{T:TypeId}{f:Nat×Nat}{m:Nat}(hb:H[b]? = some (.cells cs T f))(hF:F b)(hc:c * n<=cs.size)(ht:∀ i k,zRB f i k=true) :
  ∃ u,slS n (.slice (some ⟨b,0,none⟩) m c) none (some (.int .i64 0)) none=some u/\BufE n F H u []:=by
 have hbn:zKt m c none (some (.int .i64 0)) none=some (0,0,c):=by simp[zKt,bnd]
 refine⟨.slice (some ⟨b,if c=0 then 0 else 0+0 * n,none⟩) 0 c,by simp[slS,hbn],(fun x h=>absurd h (by simp)),(fun x h=>absurd h (by simp)),.inr ⟨b,_,c,cs,T,f,rfl,hF,Nat.zero_le _,hb,?_,ht,by simp⟩⟩
 split <;> omega
theorem zZn {H:zAd}{n:Nat}(hn:n<=1000000):zAg prg zBu [.slice none 0 0,.int .i64 (n:Nat)] H fun u H'=>BufE 6 (fun b=>H.size<=b/\b<H'.size) H' u []/\Keep (fun _=>False) H H':=by
 apply zDY
 unfold zCp
 have e1:zAh .no .lss (.int .i64 (n:Nat)) (.int .i64 0)=some (.bool false):=zAbG
 have e2:zAh .no .sub (.int .i64 0) (.int .i64 0)=some (.int .i64 0):=by rw[zAi];rfl
 have e3:zAh .no .sub (.int .i64 (n:Nat)) (.int .i64 0)=some (.int .i64 (n:Nat)):=by
  rw[zAi];simp only[zA9,Int.sub_zero];rw[zAM] <;> omega
 have e4:zAh .no .gtr (.int .i64 (n:Nat)) (.int .i64 0)=some (.bool (decide (n > 0))):=zZc (m:=0)
 have c0:zAb6 (.slice none 0 0)=some (.int .i64 0):=rfl
 have l0:zBO (.slice none 0 0)=some (.int .i64 0):=rfl
 have s0:slS 6 (.slice none 0 0) none (some (.int .i64 0)) none=some (.slice none 0 0):=rfl
 refine zYp.2 ?_
 rw[e1,zAa,zAc,if_neg (by decide)]
 refine zL2 (fun u h=>BufE 6 (fun b=>H.size<=b/\b<h.size) h u []/\Keep (fun _=>False) H h) (fun k hk=>?_) fun u h hh=>hh
 simp only[c0,l0,e2,e3,e4,zAa,zAc]
 by_cases h0:n > 0
 ·rw[if_pos (by simpa using h0),s0,zAa]
  refine⟨none,0,0,.i64,n,_,rfl,rfl,by omega,by omega,zWx,zZl (by simp[zB7 zNm]) (by rw[Array.all_eq_true_iff_forall_mem];intro c hc;exact zID c (by simpa using hc)),fun h=>by omega,fun _=>⟨by omega,by omega,#[],rfl,fun cap rest h1 h2 h3=>?_⟩⟩
  rw[Nat.zero_add]at h1 h3 ⊢
  have hsz:(#[]++zOZ (zDa zNG).toArray (n * 6)++rest).size=cap * 6:=by
   simp only[Array.size_append,zZm,h3,List.size_toArray,List.length_nil]
   omega
  obtain⟨u,hu,hbu⟩:=BufE.cut0 (n:=6) (F:=fun b=>H.size<=b/\b<(H.push (.cells (#[]++zOZ (zDa zNG).toArray (n * 6)++rest) zAj (0,0))).size) (m:=n) (c:=cap) (zAR (H:=H) (y := .cells (#[]++zOZ (zDa zNG).toArray (n * 6)++rest) zAj (0,0))) ⟨Nat.le_refl _,by simp⟩ (by rw[hsz];exact Nat.le_refl _) (fun _ _=>zI3)
  rw[hu,zAa]
  exact hk _ _ ⟨hbu,Keep.push⟩
 ·rw[if_neg (by simpa using h0)]
  exact hk _ _ ⟨BufE.nil,Keep.refl⟩
theorem zVn {P Q:Nat->Prop}{H:zAd}{q:Nat}{v w:Value}{xs ys:List Dep}(a:At H q [v,w])(hv:SlE 6 P H v (xs.map zDa))(hw:SlE 6 Q H w (ys.map zDa))(hl:xs.length+ys.length<=1000000) :
  zAg prg zBo [.slice (some ⟨q,0,none⟩) 2 2] H fun u H'=>BufE 6 (fun b=>H.size<=b/\b<H'.size) H' u ((xs++ys).map zDa)/\Keep (fun _=>False) H H':=by
 apply zDz
 unfold zCa
 have hlv:zBO (.slice (some ⟨q,0,none⟩) 2 2)=some (.int .i64 ((2:Nat):Int)):=rfl
 have lv:=hv.len
 have lw:=hw.len
 rw[List.length_map]at lv lw
 have i0:ixS 1 (.slice (some ⟨q,0,none⟩) 2 2) (.int .i64 ((0:Nat):Int))=some (Ptr q 0):=by rw[zHJ (by omega)]
 have i1:ixS 1 (.slice (some ⟨q,0,none⟩) 2 2) (.int .i64 ((1:Nat):Int))=some (Ptr q 1):=by rw[zHJ (by omega)]
 have d0:∀ h,Keep (fun _=>False) H h->ld1 h (Ptr q 0)=some v:=fun h k=>(a.keep k id).ld rfl
 have d1:∀ h,Keep (fun _=>False) H h->ld1 h (Ptr q 1)=some w:=fun h k=>(a.keep k id).ld rfl
 have adN:∀ x y:Nat,x+y<=1000000->zAh .no .add (.int .i64 (x:Nat)) (.int .i64 (y:Nat))=some (.int .i64 ((x+y:Nat):Int)):=fun x y h=>by
  rw[zAi];simp only[zA9];rw[zAM (by omega) (by omega)];rfl
 refine zLf (fun t _ h=>t = .int .i64 ((xs.length+ys.length:Nat):Int)/\H=h) (fun k hk=>?_) ?_
 ·rw[hlv,zAa]
  refine zTf (fun t u h=>(∃ i:Nat,i<=2/\u = .int .i64 (i:Nat)/\t = .int .i64 (((if 0<i then xs.length else 0)+(if 1<i then ys.length else 0):Nat):Int))/\H=h) (fun _ u _=>match u with | .int _ t=>2 - t.toNat | _=>0) ⟨⟨0,by omega,rfl,rfl⟩,rfl⟩ ?_
  rintro _ _ h ⟨⟨i,hi,rfl,rfl⟩,rfl⟩ kk hkk
  rw[zMs,zAa,zAc]
  have hc:i=0\/i=1\/i=2:=by omega
  rcases hc with rfl | rfl | rfl
  ·rw[if_pos (by decide)]
   refine zAF.2 ?_
   rw[i0,zAa,d0 _ Keep.refl,zAa,lv,zAa]
   rw[show((if 0<0 then xs.length else 0)+(if 1<0 then ys.length else 0):Nat)=0 from rfl,adN _ _ (by omega),zAa,zAbG,zAa]
   rw[zAc,if_neg (by decide)]
   show Mpu (zAh .no .add (.int .i64 ((0:Nat):Int)) (.int .i64 1)) _
   rw[zAG (by omega),zAa]
   exact hkk _ _ _ ⟨⟨1,by omega,rfl,by simp⟩,rfl⟩ (by show 2 - 1<2 - 0;omega)
  ·rw[if_pos (by decide)]
   refine zAF.2 ?_
   rw[i1,zAa,d1 _ Keep.refl,zAa,lw,zAa]
   rw[show((if 0<1 then xs.length else 0)+(if 1<1 then ys.length else 0):Nat)=xs.length by simp,adN _ _ (by omega),zAa,zAbG,zAa]
   rw[zAc,if_neg (by decide)]
   show Mpu (zAh .no .add (.int .i64 ((1:Nat):Int)) (.int .i64 1)) _
   rw[zAG (by omega),zAa]
   exact hkk _ _ _ ⟨⟨2,by omega,rfl,by simp⟩,rfl⟩ (by show 2 - 2<2 - 1;omega)
  ·rw[if_neg (by decide)]
   exact hk _ _ _ ⟨by simp,rfl⟩
 rintro _ _ _ ⟨rfl,rfl⟩
 refine zAk (zZn (by omega)) ?_
 rintro u7 h7 ⟨hb7,k7⟩
 refine zLf (fun t _ h=>BufE 6 (fun b=>H.size<=b/\b<h.size) h t ((xs++ys).map zDa)/\Keep (fun _=>False) H h) (fun k hk=>?_) fun t _ h hh=>hh
 rw[hlv,zAa]
 refine zTf (fun t u h=>(∃ i:Nat,i<=2/\u = .int .i64 (i:Nat)/\BufE 6 (fun b=>H.size<=b/\b<h.size) h t (((if 0<i then xs else [])++(if 1<i then ys else [])).map zDa))/\Keep (fun _=>False) H h) (fun _ u _=>match u with | .int _ t=>2 - t.toNat | _=>0) ⟨⟨0,by omega,rfl,by simpa using hb7⟩,k7⟩ ?_
 rintro t _ h ⟨⟨i,hi,rfl,hb⟩,kh⟩ kk hkk
 rw[zMs,zAa,zAc]
 have hc:i=0\/i=1\/i=2:=by omega
 have gh:=kh.1
 rcases hc with rfl | rfl | rfl
 ·rw[if_pos (by decide),i0,zAa,d0 _ kh,zAa]
  refine(hb.mono fun b hb=>hb.1).app (hv.keep kh fun _ _=>id) (by omega) (by simp;omega) (by show H.size<=h.size;omega) fun t2 h2 ht k2=>?_
  rw[zAG (by omega),zAa]
  refine hkk _ _ _ ⟨⟨1,by omega,rfl,?_⟩,kh.fresh k2 fun b hb=>hb⟩ (by show 2 - 1<2 - 0;omega)
  have:=BufE.re ht (G:=fun b=>H.size<=b/\b<h2.size) fun b hb hF=>⟨hF,hb⟩
  simpa using this
 ·rw[if_pos (by decide),i1,zAa,d1 _ kh,zAa]
  refine(hb.mono fun b hb=>hb.1).app (hw.keep kh fun _ _=>id) (by omega) (by simp;omega) (by show H.size<=h.size;omega) fun t2 h2 ht k2=>?_
  rw[zAG (by omega),zAa]
  refine hkk _ _ _ ⟨⟨2,by omega,rfl,?_⟩,kh.fresh k2 fun b hb=>hb⟩ (by show 2 - 2<2 - 1;omega)
  have:=BufE.re ht (G:=fun b=>H.size<=b/\b<h2.size) fun b hb hF=>⟨hF,hb⟩
  simpa using this
 ·rw[if_neg (by decide)]
  exact hk _ _ _ ⟨by simpa using hb,kh⟩
theorem zZo {P:Nat->Prop}{H:zAd}{mv:List MV}{wants:List Dep}{vh vw:Value}{b:Int}{q i j:Nat}(hp:Prb P H mv wants vh vw)(aq:At H q (zK7 vh vw b))(hi:i<(zA7 mv).length)(hj:j<(zA7 mv).length) :
  zAg prg zBY [.int .i64 (i:Nat),.int .i64 (j:Nat),Ptr q 0] H fun u H'=>u = .int .i64 (zAao (gM (zA7 mv) j).ver (gM (zA7 mv) i).ver)/\Keep (fun _=>False) H H':=by
 apply zIr
 unfold zGs
 obtain⟨x,hx,hgx,hxm,hmx,bx,ox,hix,hpx,_⟩:=hp.at hi
 obtain⟨y,hy,hgy,hym,hmy,by',oy,hiy,hpy,_⟩:=hp.at hj
 have d0:ld1 H (Ptr q 0)=some vh:=aq.ld rfl
 simp only[zAx,Nat.add_zero,zAa,d0,hix .i64,hiy .i64,zUe hpx hmx.wf,zUe hpy hmy.wf]
 rw[hgx,hgy]
 exact zAk (zAfD hmy.wf.ver hmx.wf.ver) fun _ h hR=>hR
theorem zVo {H:zAd}{a:List UInt8}:zAg prg zCT [str a] H fun u H'=>u = .bool false/\H=H':=by
 apply zK0
 unfold zKa
 rw[zSL,zAa]
 exact⟨by simp,rfl⟩
theorem zUh {H:zAd}{a b:List UInt8}:zAg prg zF0 [str a,str b] H fun u H'=>u = .int .i64 (zK6 a b)/\H=H':=by
 apply zJ8
 unfold zIP
 refine zAk zVo ?_
 rintro _ _ ⟨rfl,rfl⟩
 refine zAk zVo ?_
 rintro _ _ ⟨rfl,rfl⟩
 have e1:zAh .no .lss (str a) (str b)=some (.bool (less a b)):=by
  rw[zEI];simp only[zP4,zJV]
 have e2:zAh .no .gtr (str a) (str b)=some (.bool !(less a b || (a == b))):=by
  rw[zEI];simp only[zP4,zJV]
 rw[zAc,if_neg (by decide),zAc,if_neg (by decide),e1,zAa,zAc]
 cases h1:less a b
 ·rw[if_neg (by decide),e2,zAa,zAc,h1,Bool.false_or]
  have hz:=zEL.zero a b
  have ht:=zEL.three a b
  by_cases hab:a=b
  ·have:(a == b)=true:=by simpa using hab
   rw[this,if_neg (by decide)]
   exact⟨by rw[hz.2 hab],rfl⟩
  ·have:(a == b)=false:=by simpa using hab
   rw[this,if_pos (by rfl)]
   have hne:zK6 a b≠0:=fun e=>hab (hz.1 e)
   have hn1:zK6 a b ≠ -1:=fun e=>by
    unfold zK6 at e
    rw[if_neg (by rw[h1];decide)]at e
    split at e <;> omega
   refine⟨?_,rfl⟩
   rcases ht with h | h | h
   ·exact absurd h hn1
   ·exact absurd h hne
   ·rw[h]
 ·rw[if_pos rfl]
  exact⟨by unfold zK6;rw[if_pos h1],rfl⟩
theorem zZp {P:Nat->Prop}{H:zAd}{mv:List MV}{wants:List Dep}{vh vw:Value}{b:Int}{q i j:Nat}(hp:Prb P H mv wants vh vw)(aq:At H q (zK7 vh vw b))(hi:i<(zA7 mv).length)(hj:j<(zA7 mv).length) :
  zAg prg zBZ [.int .i64 (i:Nat),.int .i64 (j:Nat),Ptr q 0] H fun u H'=>u = .int .i64 (zK6 (gM (zA7 mv) i).name (gM (zA7 mv) j).name)/\H=H':=by
 apply zIs
 unfold zGt
 obtain⟨x,hx,hgx,hxm,hmx,bx,ox,hix,hpx,_⟩:=hp.at hi
 obtain⟨y,hy,hgy,hym,hmy,by',oy,hiy,hpy,_⟩:=hp.at hj
 have d0:ld1 H (Ptr q 0)=some vh:=aq.ld rfl
 simp only[zAx,Nat.add_zero,zAa,d0,hix .i64,hiy .i64,zVl hpx,zVl hpy]
 rw[hgx,hgy]
 exact zAk zUh fun _ h hR=>hR
def zUi (xs:List Int)(lt:Int->Int->Bool):Prop:=∀ (G:zAd->Prop) (F:Nat->Prop) (H:zAd) (v fv:Value),BufE 1 F H v (zH3 xs)->zAe2 fv xs lt G->(∀ h,Keep F H h->G h)->(∀ b,F b->b<H.size)->zAg prg zBi [v,fv] H fun _ H'=>BufE 1 F H' v (zH3 (zFs lt xs))/\Keep F H H'
def zZq (hv:List Man)(x y:Int):Bool:=zAcG hv x.toNat y.toNat
def zS1 (hv:List Man)(x y:Int):Bool:=zAfW hv x.toNat y.toNat
theorem zZr {P Q:Nat->Prop}{H:zAd}{mv:List MV}{wants:List Dep}{vh vw vc:Value}{b:Int}{ch:List Nat}(hp:Prb P H mv wants vh vw)(hP:∀ b,P b->b<H.size)(hc:SlE 1 Q H vc (zH3 (zs ch)))(hk:∀ k ∈ ch,k<(zA7 mv).length)(hl:ch.length<=1000)(hS:zUi (zs ch) (zZq (zA7 mv))) :
  zAg prg zE1 [.agg (zK7 vh vw b).toArray,vc] H fun u H'=>BufE 1 (fun b=>H.size<=b/\b<H'.size) H' u (zH3 (zs (zEO (zA7 mv) ch)))/\Keep (fun _=>False) H H':=by
 apply zJa
 unfold zHE
 simp only[zAN,zAs]
 generalize hH1:H.push (.cells (zK7 vh vw b).toArray zAL (0,0))=H1
 have k1:Keep (fun _=>False) H H1:=by rw[<- hH1];exact Keep.push
 have a1:At H1 H.size (zK7 vh vw b):=by rw[<- hH1];exact At.push
 have s1:H1.size=H.size+1:=by rw[<- hH1];simp
 refine zAk (zSa (hc.keep k1 fun _ _=>id) (by rw[zNT];omega)) ?_
 rintro v h2 ⟨hv,k2⟩
 have k02:=k1.trans k2
 have a2:=a1.keep k2 id
 have hv':BufE 1 (fun b=>H1.size<=b/\b<h2.size) h2 v (zH3 (zs ch)):=hv
 have hcmp:zAe2 (.func (.func zBZ) #[] #[Ptr H.size 0]) (zs ch) (zZq (zA7 mv)) (fun h=>Keep (fun b=>H1.size<=b/\b<h2.size) h2 h):=fun x y h hx hy kh=>by
  obtain⟨i,hi,rfl⟩:=zNS hx
  obtain⟨j,hj,rfl⟩:=zNS hy
  refine .inl ⟨zBZ,#[],#[Ptr H.size 0],rfl,by kernel_rfl,?_⟩
  have k0h:Keep (fun b=>H1.size<=b) H h:=(k02.mono fun _ _ h=>h.elim).trans (kh.mono fun _ _ h=>h.1)
  refine zAg.mono (zZp (b:=b) (hp.keep k0h fun b hb hS=>by have:=hP b hb;omega) (a2.keep kh (show ¬ (H1.size<=H.size/\H.size<h2.size) by omega)) (hk i hi) (hk j hj)) ?_
  rintro _ h' ⟨rfl,rfl⟩
  exact⟨⟨_,rfl,rfl⟩,Keep.refl⟩
 refine zAk (hS _ _ _ _ _ hv' hcmp (fun h k=>k) fun b hb=>hb.2) ?_
 rintro _ h3 ⟨hs,k3⟩
 have hs:BufE 1 (fun b=>H1.size<=b/\b<h2.size) h3 v (zH3 (zs (zEO (zA7 mv) ch))):=by
  unfold zEO;rw[<- zWz];exact hs
 exact⟨BufE.re hs fun b hb hF=>⟨by have:=hF.1;omega,hb⟩,k02.fresh k3 fun b hb=>by have:=hb.1;omega⟩
theorem zAcI {n:Int}:zFt prg zGd 1 [(0,.int .i64 n)]=some #[.int .i64 n]:=by kernel_rfl
theorem zZs {hv:List Man}{d:Dep}{i:Nat}(h:i<hv.length):((List.range (i+1)).filter fun k=>zNp d (gM hv k))=((List.range i).filter fun k=>zNp d (gM hv k))++(if zNp d (gM hv i) then [i] else []):=by
 rw[List.range_succ,List.filter_append,List.filter_cons];rfl
set_option maxHeartbeats 2000000 in
theorem zZt {P:Nat->Prop}{H:zAd}{mv:List MV}{wants:List Dep}{vh vw:Value}{b:Int}{d:Dep}(hp:Prb P H mv wants vh vw)(hP:∀ b,P b->b<H.size)(hd:d.wf)(hl:mv.length<=1000)(hO:zNR H)(hS:zUi (zs (zPu (zA7 mv) d)) (zS1 (zA7 mv))) :
  zAg prg zE0 [.agg (zK7 vh vw b).toArray,.agg (zDa d).toArray] H fun u H'=>BufE 1 (fun b=>H.size<=b/\b<H'.size) H' u (zH3 (zs (zM4 (zA7 mv) d)))/\Keep (fun _=>False) H H':=by
 apply zI9
 unfold zHD
 simp only[zAN,zAs]
 generalize hH1:H.push (.cells (zK7 vh vw b).toArray zAL (0,0))=H1
 have k1:Keep (fun _=>False) H H1:=by rw[<- hH1];exact Keep.push
 have a1:At H1 H.size (zK7 vh vw b):=by rw[<- hH1];exact At.push
 have s1:H1.size=H.size+1:=by rw[<- hH1];simp
 generalize hH2:H1.push (.cells (zDa d).toArray zAj (0,0))=H2
 have k2:Keep (fun _=>False) H1 H2:=by rw[<- hH2];exact Keep.push
 have a2:At H2 H1.size (zDa d):=by rw[<- hH2];exact At.push
 have s2:H2.size=H1.size+1:=by rw[<- hH2];simp
 have k02:=k1.trans k2
 have b2:=a1.keep k2 id
 have lh:=hp.h.len
 rw[List.length_map]at lh
 have hvl:(zA7 mv).length=mv.length:=by simp
 refine zLf (fun t _ h=>BufE 1 (fun b=>H2.size<=b) h t (zH3 (zs (zPu (zA7 mv) d)))/\Keep (fun _=>False) H2 h) (fun k hk=>?_) ?_
 ·have d0:ld1 H2 (Ptr H.size 0)=some vh:=b2.ld rfl
  rw[zAx,zAa,Nat.add_zero,d0,zAa,lh,zAa]
  refine zTf (fun t u h=>(∃ i:Nat,i<=mv.length/\u = .int .i64 (i:Nat)/\BufE 1 (fun b=>H2.size<=b) h t (zH3 (zs ((List.range i).filter fun k=>zNp d (gM (zA7 mv) k)))))/\Keep (fun _=>False) H2 h) (fun _ u _=>match u with | .int _ t=>mv.length - t.toNat | _=>0) ⟨⟨0,Nat.zero_le _,rfl,BufE.nil⟩,Keep.refl⟩ ?_
  rintro t _ h ⟨⟨i,hi,rfl,hb⟩,kh⟩ kk hkk
  rw[zMs,zAa,zAc]
  by_cases hlt:i<mv.length
  rotate_left
  ·rw[if_neg (by simpa using hlt)]
   obtain rfl:i=mv.length:=by omega
   refine hk _ _ _ ⟨?_,kh⟩
   unfold zPu
   rw[hvl];exact hb
  rw[if_pos (by simpa using hlt)]
  have gh:=kh.1
  have k0h:=k02.trans kh
  obtain⟨x,hx,hgx,hxm,hmx,bx,ox,hix,hpx,_⟩:=(hp.keep k0h fun _ _=>id).at (k:=i) (by rw[hvl];exact hlt)
  have htk:=zZs (hv:=zA7 mv) (d:=d) (i:=i) (by rw[hvl];exact hlt)
  refine zLf (fun t2 _ h'=>BufE 1 (fun b=>H2.size<=b) h' t2 (zH3 (zs ((List.range (i+1)).filter fun k=>zNp d (gM (zA7 mv) k))))/\Keep (fun _=>False) H2 h') (fun k7 hk7=>?_) ?_
  rotate_left
  ·rintro t2 _ h' ⟨hb',kh'⟩
   rw[zAG (by omega),zAa]
   exact hkk _ _ _ ⟨⟨i+1,by omega,rfl,hb'⟩,kh'⟩ (by show mv.length - (i+1)<mv.length - i;omega)
  rw[hix .i64,zAa,zKf hpx hmx.wf,zAa]
  simp only[zKJ,zAs]
  generalize hH9:h.push (.cells (zEN ⟨[],zB2,[],[],[]⟩ zAY zAY zAY).toArray zAb (0,0))=h9
  have k9:Keep (fun _=>False) h h9:=by rw[<- hH9];exact Keep.push
  have a9:At h9 h.size (zEN ⟨[],zB2,[],[],[]⟩ zAY zAY zAY):=by rw[<- hH9];exact At.push
  obtain⟨h10,st10,a10,k10⟩:=a9.st (n:=8) (ds:=mvC x) (zAH zMt) (zAH hmx.wf) (zF7 hmx)
  have khh:Keep (fun _=>False) h h10:=k9.fresh k10 fun b hb=>by omega
  have a10':At h10 h.size (zEN x.1 x.2.1 x.2.2.1 x.2.2.2):=a10
  have hb10:=hb.keep khh fun _ _=>id
  have c10:=(a2.keep kh id).keep khh id
  have e:=fun q=>zBX (q:=q) (a:=x.1.name) (b:=d.name)
  rw[st10,zAm]
  simp only[zAx,Nat.zero_add,Nat.add_zero,zAa]
  rw[zBE a10',zAa,zZf c10,zAa,e,zAa]
  have no:∀ h',Keep (fun _=>False) h10 h'->zNp d x.1=false->BufE 1 (fun b=>H2.size<=b) h' t (zH3 (zs ((List.range (i+1)).filter fun k=>zNp d (gM (zA7 mv) k))))/\Keep (fun _=>False) H2 h':=fun h' k' hf=>by
   refine⟨?_,(kh.trans khh).trans k'⟩
   rw[htk,hgx,hf]
   simpa using hb10.keep k' fun _ _=>id
  cases hn:decide (x.1.name=d.name)
  ·refine zJe (by decide) ?_
   rw[zAe,if_neg (by decide),zAa,zAc,if_neg (by decide)]
   exact hk7 _ _ _ (no _ Keep.refl (by unfold zNp;rw[hn];rfl))
  ·refine zBM rfl ?_
   rw[zS0 c10 hd,zAa,zFK a10' hmx.wf,zAa]
   refine zAk (zPr hd.want hmx.wf.ver (hO.keep (k0h.trans khh) fun _ h=>h.elim)) ?_
   rintro _ h12 ⟨rfl,k12⟩
   have hfm:zNp d x.1=(zFJ d.want && zEX x.1.ver && zVb d.want.op d.want.ver x.1.ver):=by unfold zNp;rw[hn];rfl
   rw[zAe,if_pos rfl,zAa,zAc]
   cases hf:(zFJ d.want && zEX x.1.ver && zVb d.want.op d.want.ver x.1.ver)
   ·rw[if_neg (by decide)]
    exact hk7 _ _ _ (no _ k12 (by rw[hfm,hf]))
   ·rw[if_pos rfl,zAcI,zAV]
    generalize hH14:h12.push (.cells #[.int .i64 (i:Nat)] zGd (0,0))=h14
    have k14:Keep (fun _=>False) h12 h14:=by rw[<- hH14];exact Keep.push
    have hx14:SlE 1 (· = h12.size) h14 (.slice (some ⟨h12.size,0,none⟩) 1 1) (zH3 [(i:Int)]) :=
     ⟨⟨_,1,rfl,Nat.le_refl _,.inr ⟨h12.size,0,rfl,rfl,by rw[zJH,<- hH14];exact Pt.of zAR⟩⟩,zNe,zMJ fun v hv=>by simp at hv;subst hv;rfl⟩
    have g12:=k12.1
    have g14:=k14.1
    have ghh:=khh.1
    have hfl:=List.length_filter_le (fun k=>zNp d (gM (zA7 mv) k)) (List.range i)
    rw[List.length_range]at hfl
    refine((hb10.keep k12 fun _ _=>id).keep k14 fun _ _=>id).app hx14 (by omega) (by rw[zKI,zKI,zNT];simp;omega) (by show H2.size<=h14.size;omega) fun t3 h15 ht k15=>?_
    refine hk7 _ _ _ ⟨?_,(((kh.trans khh).trans k12).trans k14).fresh k15 fun b hb=>hb⟩
    have:zH3 (zs ((List.range (i+1)).filter fun k=>zNp d (gM (zA7 mv) k)))=zH3 (zs ((List.range i).filter fun k=>zNp d (gM (zA7 mv) k)))++zH3 [(i:Int)]:=by
     rw[htk,hgx,hfm,hf];simp[zs,zFB]
    rw[this];exact ht
 rintro t _ h ⟨hb,kh⟩
 have hmem:∀ k ∈ zPu (zA7 mv) d,k<(zA7 mv).length:=fun k hk=>by
  unfold zPu at hk
  exact List.mem_range.1 (List.mem_filter.1 hk).1
 have g02:=k02.1
 have hb:BufE 1 (fun b=>H2.size<=b/\b<h.size) h t (zH3 (zs (zPu (zA7 mv) d))):=BufE.re hb fun b hb hF=>⟨hF,hb⟩
 have hcmp:zAe2 (.func (.func zBY) #[] #[Ptr H.size 0]) (zs (zPu (zA7 mv) d)) (zS1 (zA7 mv)) (fun g=>Keep (fun b=>H2.size<=b/\b<h.size) h g):=fun x y g hx hy kg=>by
  obtain⟨i,hi,rfl⟩:=zNS hx
  obtain⟨j,hj,rfl⟩:=zNS hy
  refine .inl ⟨zBY,#[],#[Ptr H.size 0],rfl,by kernel_rfl,?_⟩
  have k0g:Keep (fun b=>H2.size<=b) H g:=((k02.trans kh).mono fun _ _ h=>h.elim).trans (kg.mono fun _ _ h=>h.1)
  refine zAg.mono (zZo (b:=b) (hp.keep k0g fun b hb hS=>by have:=hP b hb;omega) ((b2.keep kh id).keep kg (show ¬ (H2.size<=H.size/\H.size<h.size) by omega)) (hmem i hi) (hmem j hj)) ?_
  rintro _ h' ⟨rfl,k'⟩
  exact⟨⟨_,rfl,rfl⟩,k'⟩
 refine zAk (hS _ _ _ _ _ hb hcmp (fun h k=>k) fun b hb=>hb.2) ?_
 rintro _ h3 ⟨hs,k3⟩
 have hs:BufE 1 (fun b=>H2.size<=b/\b<h.size) h3 t (zH3 (zs (zM4 (zA7 mv) d))):=by
  unfold zM4;rw[<- zWz];exact hs
 have g2:=kh.1
 exact⟨BufE.re hs fun b hb hF=>⟨by have:=hF.1;omega,hb⟩,(k02.trans kh).fresh k3 fun b hb=>by have:=hb.1;omega⟩
end Go.Proofs.YticdfkoncnnmmaaGreatDoor
