import Derived.Test.YticdfkoncnnmmaaGreatDoorG2
import Derived.Test.YticdfkoncnnmmaaGreatDoorGV
import Derived.Test.YticdfkoncnnmmaaGreatDoorGM
import Derived.Test.YticdfkoncnnmmaaGreatDoorGN
import Derived.Test.YticdfkoncnnmmaaGreatDoorGJ
set_option linter.unusedSimpArgs false
set_option linter.unusedVariables false
set_option maxRecDepth 100000
namespace Go.Proofs.YticdfkoncnnmmaaGreatDoor
open Go.X Go.X.Diff
theorem zAd4 {a:Option Addr}{n c:Nat}:zFt prg zDq 1 [(0,.slice a n c)]=some #[.slice a n c]:=by kernel_rfl
theorem zY0 {Pd:Nat->Prop}{H:zAd}{v:Value}{m:List UInt8}(hx:Sl Pd H v m)(hT:zTg H)(hPd:∀ b,Pd b->b<H.size)(hl:m.length<=1099511627776) :
  zAg prg zPa [v] H fun u H'=>u=bv (zXL (6 :: m))/\Keep (fun _=>False) H H':=by
 apply zPi
 unfold zQL
 obtain⟨va,vc,hve,_⟩:=hx.sl
 simp only[zVZ,zAs,hve,zAd4,zAV]
 rw[<- hve]
 generalize hH2:H.push (.cells (zAy zMZ).toArray zAO (0,0))=H2
 have k2:Keep (fun _=>False) H H2:=by rw[<- hH2];exact Keep.push
 have hs2:H2.size=H.size+1:=by rw[<- hH2];simp
 have hr2:H2[H.size]? = some (.cells (zAy zMZ).toArray zAO (0,0)):=by rw[<- hH2];exact zAR
 generalize hH3:H2.push (.cells #[v] zDq (0,0))=H3
 have k3:Keep (fun _=>False) H2 H3:=by rw[<- hH3];exact Keep.push
 have hs3:H3.size=H2.size+1:=by rw[<- hH3];simp
 have hv3:H3[H2.size]? = some (.cells #[v] zDq (0,0)):=by rw[<- hH3];exact zAR
 have kk:Keep (fun _=>False) H H3:=k2.trans k3
 have sv:Sl Pd H3 v m:=hx.keep kk fun _ _=>id
 have hvv:SlE 1 (· = H2.size) H3 (.slice (some ⟨H2.size,0,none⟩) 1 1) (zFB ([(v,m)].map (·.1))):=by
  refine⟨⟨_,1,rfl,Nat.le_refl _,.inr ⟨H2.size,0,rfl,rfl,?_⟩⟩,zNe,zRU (P:=Pd) (H:=H3) ?_⟩
  ·rw[zJH];exact Pt.of hv3
  ·intro x hx;simp at hx;subst hx;exact sv
 refine zAk (zTR (Pd:=Pd) hvv ?_ (hT.keep kk fun _ h=>h.elim) (fun b hb=>by omega) (fun b hb=>?_) ?_ (by simp)) ?_
 ·intro x hx;simp at hx;subst hx;exact sv
 ·have:=hPd b hb;omega
 ·simp[zHI];omega
 rintro _ H4 ⟨rfl,k4⟩
 have hr4:=(k3.trans k4).at hr2 id
 have e6:(bO 6 :: zHI [(v,m)])=6 :: m:=by simp[zHI];rfl
 rw[zOx hr4 (n:=32) rfl zFQ,zAm,zMI (zAt hr4) zFQ,zAa]
 refine⟨by rw[e6],?_⟩
 have:=(kk.trans k4)
 refine⟨by simp;exact this.1,fun i hi _=>?_⟩
 rw[Array.getElem?_setIfInBounds,if_neg (by omega),this.2 i hi id]
def zSU:zE8:=⟨[],List.replicate 32 0,0⟩
theorem zSV:zSU.wf:=⟨by simp[zSU],by simp[zSU],by simp[zSU]⟩
theorem zY1:zAB prg zAu=some (zB9 zSU).toArray:=by kernel_rfl
section
variable {h:zAd} {b o:Nat} {f:zE8}
theorem zAd5 (a:Pt h b o (zB9 f)):ld1 h (Ptr b o)=some (str f.name):=a.cell0 rfl
theorem zVg (a:Pt h b o (zB9 f))(hf:f.wf):ld1 h (Ptr b (o+33))=some (.int .i64 f.size):=a.cell (i:=33) (by
 unfold zB9
 rw[List.getElem?_cons_succ,List.getElem?_append_right (by simp[hf.sum])]
 simp[hf.sum])
theorem zY2 (a:Pt h b o (zB9 f))(hf:f.wf):ldN 32 h (Ptr b (o+1))=some (bv f.sum):=by
 have:Pt h b (o+1) (zAy f.sum):=Pt.mid (A:=[str f.name]) (B:=zAy f.sum) (C:=[.int .i64 f.size]) (o:=o) (by simpa [zB9] using a) (by simp)
 exact this.agg (by simp[hf.sum])
end
structure BSS (P Q:Nat->Prop)(H:zAd)(v:Value)(xs:List (Value×List UInt8)):Prop where
 sl:SlE 1 P H v (zFB (xs.map (·.1)))
 el:∀ x ∈ xs,Sl Q H x.1 x.2
theorem BSS.keep {P Q S:Nat->Prop}{H H':zAd}{v:Value}{xs:List (Value×List UInt8)}(h:BSS P Q H v xs)(k:Keep S H H')(h1:∀ b,P b->¬ S b)(h2:∀ b,Q b->¬ S b):BSS P Q H' v xs :=
 ⟨h.sl.keep k h1,fun x hx=>(h.el x hx).keep k h2⟩
theorem BSS.len {P Q:Nat->Prop}{H:zAd}{v:Value}{xs:List (Value×List UInt8)}(h:BSS P Q H v xs):zBO v=some (.int .i64 xs.length):=by have:=h.sl.len;simpa using this
theorem BSS.at {P Q:Nat->Prop}{H:zAd}{v:Value}{xs:List (Value×List UInt8)}(h:BSS P Q H v xs){i:Nat}{x:Value×List UInt8}(hi:xs[i]? = some x):Sl Q H x.1 x.2/\∃ p,(∀ k,ixS 1 v (.int k i)=some p)/\ld1 H p=some x.1:=by
 obtain⟨b,o,hix,hpt,_⟩:=h.sl.at (i:=i) (x:=[x.1]) (zLe (by simp[hi]))
 exact⟨h.el x (List.mem_of_getElem? hi),Ptr b o,hix,hpt.cell0 rfl⟩
def zT7 (f:zE8)(b:List UInt8):Bool:=decide ((b.length:Int)=f.size) && decide (zXL (6 :: b)=f.sum)
def zD4:List zE8->List (List UInt8)->Bool
 | f :: fs,b :: bs=>zT7 f b && zD4 fs bs
 | [],[]=>true
 | _,_=>false
theorem zT8:∀ {fs:List zE8} {bs:List (List UInt8)} {i:Nat} {f:zE8} {b:List UInt8},fs[i]? = some f->bs[i]? = some b->zD4 (fs.take (i+1)) (bs.take (i+1))=(zD4 (fs.take i) (bs.take i) && zT7 f b)
 | [],_,i,f,b,h,_=>by simp at h
 | _ :: _,[],i,f,b,_,h=>by simp at h
 | g :: fs,c :: bs,0,f,b,h1,h2=>by
  simp at h1 h2;subst h1 h2
  simp[zD4]
 | g :: fs,c :: bs,i+1,f,b,h1,h2=>by
  have ih:=zT8 (fs:=fs) (bs:=bs) (i:=i) (f:=f) (b:=b) (by simpa using h1) (by simpa using h2)
  rw[List.take_succ_cons,List.take_succ_cons,zD4,ih,List.take_succ_cons,List.take_succ_cons,zD4,Bool.and_assoc]
theorem zWq:∀ {fs:List zE8} {bs:List (List UInt8)} {i:Nat} {f:zE8} {b:List UInt8},fs[i]? = some f->bs[i]? = some b->zT7 f b=false->zD4 fs bs=false
 | [],_,i,f,b,h,_,_=>by simp at h
 | _ :: _,[],i,f,b,_,h,_=>by simp at h
 | g :: fs,c :: bs,0,f,b,h1,h2,h3=>by
  simp at h1 h2;subst h1 h2
  simp[zD4,h3]
 | g :: fs,c :: bs,i+1,f,b,h1,h2,h3=>by
  have ih:=zWq (fs:=fs) (bs:=bs) (i:=i) (f:=f) (b:=b) (by simpa using h1) (by simpa using h2) h3
  rw[zD4,ih,Bool.and_false]
theorem zWr:∀ {fs:List zE8} {bs:List (List UInt8)},bs.length≠fs.length->zD4 fs bs=false
 | [],[],h=>absurd rfl h
 | [],_ :: _,_=>rfl
 | _ :: _,[],_=>rfl
 | f :: fs,b :: bs,h=>by
  rw[zD4,zWr (fs:=fs) (bs:=bs) (fun e=>h (by simp[e])),Bool.and_false]
theorem zVh {n:Nat}{s:Int}:zAh .no .neq (.int .i64 (n:Nat)) (.int .i64 s)=some (.bool (!decide ((n:Int)=s))):=by
 rw[zAi];simp only[zA9];congr 2
theorem zAd6 {P Q R:Nat->Prop}{H:zAd}{m:Man}{vd vc vf v:Value}{xs:List (Value×List UInt8)}(hv:zJJ P H m vd vc vf)(hx:BSS Q R H v xs)(hR:∀ b,R b->b<H.size)(hl:xs.length=m.files.length->xs.length<=1048576)(hb:∀ (i:Nat) (x:Value×List UInt8) (f:zE8),xs[i]? = some x->m.files[i]? = some f->(x.2.length:Int)=f.size->x.2.length<=1048576)(hT:zTg H) :
  zAg prg zEb [.agg (zEN m vd vc vf).toArray,v] H fun u H'=>u = .bool (zD4 m.files (xs.map (·.2)))/\Keep (fun _=>False) H H':=by
 apply zIm
 unfold zGn
 simp only[zAN,zAs]
 generalize hH1:H.push (.cells (zEN m vd vc vf).toArray zAb (0,0))=H1
 have k1:Keep (fun _=>False) H H1:=by rw[<- hH1];exact Keep.push
 have a1:At H1 H.size (zEN m vd vc vf):=by rw[<- hH1];exact At.push
 have w:=hv.wf
 have g7:=(zE9 a1 w).2.2
 have lf:zBO vf=some (.int .i64 m.files.length):=by have:=hv.f.len;rwa [List.length_map]at this
 have en:zAh .no .neq (.int .i64 (xs.length:Nat)) (.int .i64 (m.files.length:Nat))=some (.bool (!decide (xs.length=m.files.length))):=by
  rw[zAi];simp only[zA9];congr 2;rw[Bool.eq_iff_iff];simp <;> omega
 rw[hx.len,zAa,zAx,zAa,Nat.zero_add,g7,zAa,lf,zAa,en,zAa,zAc]
 by_cases hne:xs.length=m.files.length
 ·rw[if_neg (by simp[hne])]
  have hl:=hl hne
  refine zL2 (fun _ h=>zD4 m.files (xs.map (·.2))=true/\Keep (fun _=>False) H h) (fun k hk=>?_) ?_
  ·rw[zAa,g7,zAa,lf,zAa]
   refine zHU (fun u h=>∃ i:Nat,i<=m.files.length/\u = .int .i64 (i:Nat)/\zD4 (m.files.take i) ((xs.map (·.2)).take i)=true/\Keep (fun _=>False) H1 h) (fun u _=>match u with | .int _ t=>m.files.length - t.toNat | _=>0) ⟨0,Nat.zero_le _,rfl,rfl,Keep.refl⟩ ?_
   rintro _ h ⟨i,hi,rfl,hall,kh⟩ k2 hk2
   have e1:zAh .no .lss (.int .i64 (i:Nat)) (.int .i64 (m.files.length:Nat))=some (.bool (decide (i<m.files.length))):=by
    rw[zAi];simp only[zA9];congr 2;rw[decide_eq_decide];omega
   rw[e1,zAa,zAc]
   by_cases hlt:i<m.files.length
   ·rw[if_pos (by simpa using hlt)]
    have k0:=k1.trans kh
    have hg:m.files[i]? = some m.files[i]:=List.getElem?_eq_getElem hlt
    have hgx:xs[i]? = some (xs[i]'(by omega)):=List.getElem?_eq_getElem (by omega)
    obtain⟨b,o,hix,hpt,_⟩:=(hv.f.keep k0 fun _ _=>id).at (i:=i) (x:=zB9 m.files[i]) (by rw[List.getElem?_map,hg];rfl)
    have hwf:=w.files _ (List.getElem_mem hlt)
    have hbl:=hb i _ _ hgx hg
    have hgb:(xs.map (·.2))[i]? = some (xs[i]'(by omega)).2:=by rw[List.getElem?_map,hgx];rfl
    have hft:=zT8 hg hgb
    rw[hall,Bool.true_and]at hft
    have hfb:=zWq hg hgb
    generalize m.files[i]=f at *
    generalize (xs[i]'(by omega))=x at *
    rw[hix .i64,zAa,hpt.agg (zBG hwf),zAa]
    simp only[zY1,zAs]
    generalize hH6:h.push (.cells (zB9 zSU).toArray zAu (0,0))=h6
    have k6:Keep (fun _=>False) h h6:=by rw[<- hH6];exact Keep.push
    have a6:At h6 h.size (zB9 zSU):=by rw[<- hH6];exact At.push
    obtain⟨h7,st7,a7,k7⟩:=a6.st (n:=34) (ds:=zB9 f) (zBG zSV) (zBG hwf) zKd
    have g0:=k0.1
    have k07:Keep (fun _=>False) H h7:=(k0.trans k6).fresh k7 fun b hb=>by omega
    have k17:Keep (fun _=>False) H1 h7:=(kh.trans k6).fresh k7 fun b hb=>by have:=kh.1;omega
    have hx7:=hx.keep k07 (fun _ _=>id) fun _ _=>id
    obtain⟨hs,p,hp,hld⟩:=hx7.at hgx
    have d33:=zVg a7.pt hwf
    have d1:=zY2 a7.pt hwf
    rw[Nat.zero_add]at d33 d1
    rw[st7,zAm,hp .i64,zAa,hld,zAa,hs.len,zAa,zAx,zAa,Nat.zero_add,d33,zAa,zVh,zAa]
    have bad:zT7 f x.2=false->∀ g,Keep (fun _=>False) H g->Value.bool false = .bool (zD4 m.files (xs.map (·.2)))/\Keep (fun _=>False) H g:=fun hf g kg=>⟨by rw[hfb hf],kg⟩
    cases hsz:decide ((x.2.length:Int)=f.size)
    ·simp only[zAq,Bool.not_true,Bool.not_false,zAl,zAo,zAe,zAc,zAa,if_true,if_false,Bool.false_eq_true,Bool.true_eq_false,decide_true,decide_false,reduceCtorEq,zAF,zCz,zCA,zCw,zCx,zCy,zAw,zAr]
     exact bad (by simp[zT7,hsz]) _ k07
    ·have hbl:=hbl (of_decide_eq_true hsz)
     simp only[hp .i64,hld,zAx,Nat.zero_add,d1,zAq,Bool.not_true,Bool.not_false,zAl,zAo,zAe,zAc,zAa,if_true,if_false,Bool.false_eq_true,Bool.true_eq_false,decide_true,decide_false,reduceCtorEq,zAF,zCz,zCA,zCw,zCx,zCy,zAw,zAr]
     refine zAk (zY0 hs (hT.keep k07 fun _ h=>h.elim) (fun b hb=>Nat.lt_of_lt_of_le (hR b hb) k07.1) (by omega)) ?_
     rintro _ h9 ⟨rfl,k9⟩
     have d1':=zY2 (a7.keep k9 id).pt hwf
     rw[Nat.zero_add]at d1'
     refine⟨d1',?_⟩
     rw[zAr,zAdL zFQ hwf.sum,zAa]
     cases hsm:decide (zXL (6 :: x.2)=f.sum)
     ·simp only[zAq,Bool.not_true,Bool.not_false,zAl,zAo,zAe,zAc,zAa,if_true,if_false,Bool.false_eq_true,Bool.true_eq_false,decide_true,decide_false,reduceCtorEq,zAF,zCz,zCA,zCw,zCx,zCy,zAw,zAr]
      exact bad (by simp[zT7,hsm]) _ (k07.trans k9)
     ·simp only[zAq,Bool.not_true,Bool.not_false,zAl,zAo,zAe,zAc,zAa,if_true,if_false,Bool.false_eq_true,Bool.true_eq_false,decide_true,decide_false,reduceCtorEq,zAF,zCz,zCA,zCw,zCx,zCy,zAw,zAr]
      rw[zAG (by omega),zAa]
      exact hk2 _ _ ⟨i+1,by omega,rfl,by rw[hft];simp[zT7,of_decide_eq_true hsz,of_decide_eq_true hsm],k17.trans k9⟩ (by show m.files.length - (i+1)<m.files.length - i;omega)
   ·rw[if_neg (by simpa using hlt)]
    refine hk _ _ ⟨?_,k1.trans kh⟩
    rwa [List.take_of_length_le (by omega),List.take_of_length_le (by simp;omega)]at hall
  ·rintro _ h ⟨h1,h2⟩
   exact⟨by rw[h1],h2⟩
 ·rw[if_pos (by simp[hne])]
  exact⟨by rw[zWr (by simpa using hne)],k1⟩
theorem zAfQ {n m:Nat}:zAh .no .gtr (.int .i64 (n:Nat)) (.int .i64 (m:Nat))=some (.bool (decide (n > m))):=by
 rw[zAi];simp only[zA9];congr 2;rw[decide_eq_decide];omega
theorem zAd7 {h:zAd}{q:Nat}{m:Man}{vd vc vf:Value}(a:At h q (zEN m vd vc vf))(hm:m.wf):ld1 h (Ptr q 4)=some (str m.ver.pre):=a.ld (by
 obtain⟨x,y,z,e⟩:=Ver.cases3 hm.ver
 obtain⟨n,⟨p,pre⟩,d,c,f⟩:=m
 simp only at e
 subst e
 rfl)
end Go.Proofs.YticdfkoncnnmmaaGreatDoor
