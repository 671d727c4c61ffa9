import Derived.Test.YticdfkoncnnmmaaGreatDoorG2
import Derived.Test.YticdfkoncnnmmaaGreatDoorGV
import Derived.Test.YticdfkoncnnmmaaGreatDoorGM
import Derived.Test.YticdfkoncnnmmaaGreatDoorGN
import Derived.Test.YticdfkoncnnmmaaGreatDoorGJ
set_option linter.unusedSimpArgs false
set_option linter.unusedVariables false
namespace Go.Proofs.YticdfkoncnnmmaaGreatDoor
open Go.X Go.X.Diff
set_option maxRecDepth 100000
theorem bsl1S{a:Option Addr}{n c:Nat}:bslV prg zBG 1 [(0,.slice a n c)]=some #[.slice a n c]:=by kernel_rfl
theorem zUl{Pd:Nat→Prop}{H:Heap}{v:Value}{m:List UInt8}(hx:Sl Pd H v m)(hT:ShaT H)(hPd:∀ b,Pd b→b<H.size)(hl:m.length≤1099511627776) :
    HCalls prg zMm [v] H fun u H'=>u=bv(shaF(6 :: m))∧Keep(fun _=>False)H H':=by
  apply zNS
  unfold zN6
  obtain⟨va,vc,hve,_⟩:=hx.sl
  simp only[zOU,zAp,hve,bsl1S,zAJ]
  rw[← hve]
  generalize hH2:H.push(.cells(bcells zeroH).toArray zAF(0,0))=H2
  have k2:Keep(fun _=>False)H H2:=by rw[← hH2];exact Keep.push
  have hs2:H2.size=H.size+1:=by rw[← hH2];simp
  have hr2:H2[H.size]? = some(.cells(bcells zeroH).toArray zAF(0,0)):=by rw[← hH2];exact zAA
  generalize hH3:H2.push(.cells #[v] zBG(0,0))=H3
  have k3:Keep(fun _=>False)H2 H3:=by rw[← hH3];exact Keep.push
  have hs3:H3.size=H2.size+1:=by rw[← hH3];simp
  have hv3:H3[H2.size]? = some(.cells #[v] zBG(0,0)):=by rw[← hH3];exact zAA
  have kk:Keep(fun _=>False)H H3:=k2.trans k3
  have sv:Sl Pd H3 v m:=hx.keep kk fun _ _=>id
  have hvv:SlE 1(· = H2.size)H3(.slice(some⟨H2.size,0,none⟩)1 1)(rows1([(v,m)].map(·.1))):=by
    refine⟨⟨_,1,rfl,Nat.le_refl _,.inr⟨H2.size,0,rfl,rfl,?_⟩⟩,zJb,zOZ(P:=Pd)(H:=H3)?_⟩
    · rw[zGK];exact Pt.of hv3
    · intro x hx;simp at hx;subst hx;exact sv
  refine zAf(zP5(Pd:=Pd)hvv ?_(hT.keep kk fun _ h=>h.elim)(fun b hb=>by omega)(fun b hb=>?_)?_(by simp))?_
  · intro x hx;simp at hx;subst hx;exact sv
  · have:=hPd b hb;omega
  · simp[partsB];omega
  rintro _ H4⟨rfl,k4⟩
  have hr4:=(k3.trans k4).at hr2 id
  have e6:(bO 6 :: partsB [(v,m)])=6 :: m:=by simp[partsB];rfl
  rw[zLm hr4(n:=32)rfl zC3,zAi,zJC(zAr hr4)zC3,zAa]
  refine⟨by rw[e6],?_⟩
  have:=(kk.trans k4)
  refine⟨by simp;exact this.1,fun i hi _=>?_⟩
  rw[Array.getElem?_setIfInBounds,if_neg(by omega),this.2 i hi id]
def zeroF:MFile:=⟨[],List.replicate 32 0,0⟩
theorem zOv:zeroF.wf:=⟨by simp[zeroF],by simp[zeroF],by simp[zeroF]⟩
theorem zRt:zcells prg zAt=some(fileC zeroF).toArray:=by kernel_rfl
section
variable{h:Heap}{b o:Nat}{f:MFile}
theorem zW3(a:Pt h b o(fileC f)):ld1 h(Ptr b o)=some(str f.name):=a.cell0 rfl
theorem zPB(a:Pt h b o(fileC f))(hf:f.wf):ld1 h(Ptr b(o+33))=some(.int .i64 f.size):=a.cell(i:=33)(by
  unfold fileC
  rw[List.getElem?_cons_succ,List.getElem?_append_right(by simp[hf.sum])]
  simp[hf.sum])
theorem zRu(a:Pt h b o(fileC f))(hf:f.wf):ldN 32 h(Ptr b(o+1))=some(bv f.sum):=by
  have:Pt h b(o+1)(bcells f.sum):=Pt.mid(A:=[str f.name])(B:=bcells f.sum)(C:=[.int .i64 f.size])(o:=o)(by simpa [fileC] using a)(by simp)
  exact this.agg(by simp[hf.sum])
end
structure BSS(P Q:Nat→Prop)(H:Heap)(v:Value)(xs:List(Value×List UInt8)):Prop where
  sl:SlE 1 P H v(rows1(xs.map(·.1)))
  el:∀ x ∈ xs,Sl Q H x.1 x.2
theorem BSS.keep{P Q S:Nat→Prop}{H H':Heap}{v:Value}{xs:List(Value×List UInt8)}(h:BSS P Q H v xs)(k:Keep S H H')(h1:∀ b,P b→¬ S b)(h2:∀ b,Q b→¬ S b):BSS P Q H' v xs :=
  ⟨h.sl.keep k h1,fun x hx=>(h.el x hx).keep k h2⟩
theorem BSS.len{P Q:Nat→Prop}{H:Heap}{v:Value}{xs:List(Value×List UInt8)}(h:BSS P Q H v xs):lenV v=some(.int .i64 xs.length):=by have:=h.sl.len;simpa using this
theorem BSS.at{P Q:Nat→Prop}{H:Heap}{v:Value}{xs:List(Value×List UInt8)}(h:BSS P Q H v xs){i:Nat}{x:Value×List UInt8}(hi:xs[i]? = some x):Sl Q H x.1 x.2∧∃ p,(∀ k,ixS 1 v(.int k i)=some p)∧ld1 H p=some x.1:=by
  obtain⟨b,o,hix,hpt,_⟩:=h.sl.at(i:=i)(x:=[x.1])(zHV(by simp[hi]))
  exact⟨h.el x(List.mem_of_getElem? hi),Ptr b o,hix,hpt.cell0 rfl⟩
def fitAt(f:MFile)(b:List UInt8):Bool:=decide((b.length:Int)=f.size) && decide(shaF(6 :: b)=f.sum)
def fitsAll:List MFile→List(List UInt8)→Bool
  | f :: fs,b :: bs=>fitAt f b && fitsAll fs bs
  | [],[]=>true
  | _,_=>false
theorem zQg:∀ {fs:List MFile}{bs:List(List UInt8)}{i:Nat}{f:MFile}{b:List UInt8},fs[i]? = some f→bs[i]? = some b→fitsAll(fs.take(i+1))(bs.take(i+1))=(fitsAll(fs.take i)(bs.take i) && fitAt f b)
  | [],_,i,f,b,h,_=>by simp at h
  | _ :: _,[],i,f,b,_,h=>by simp at h
  | g :: fs,c :: bs,0,f,b,h1,h2=>by
    simp at h1 h2;subst h1 h2
    simp[fitsAll]
  | g :: fs,c :: bs,i+1,f,b,h1,h2=>by
    have ih:=zQg(fs:=fs)(bs:=bs)(i:=i)(f:=f)(b:=b)(by simpa using h1)(by simpa using h2)
    rw[List.take_succ_cons,List.take_succ_cons,fitsAll,ih,List.take_succ_cons,List.take_succ_cons,fitsAll,Bool.and_assoc]
theorem zRv:∀ {fs:List MFile}{bs:List(List UInt8)}{i:Nat}{f:MFile}{b:List UInt8},fs[i]? = some f→bs[i]? = some b→fitAt f b=false→fitsAll fs bs=false
  | [],_,i,f,b,h,_,_=>by simp at h
  | _ :: _,[],i,f,b,_,h,_=>by simp at h
  | g :: fs,c :: bs,0,f,b,h1,h2,h3=>by
    simp at h1 h2;subst h1 h2
    simp[fitsAll,h3]
  | g :: fs,c :: bs,i+1,f,b,h1,h2,h3=>by
    have ih:=zRv(fs:=fs)(bs:=bs)(i:=i)(f:=f)(b:=b)(by simpa using h1)(by simpa using h2)h3
    rw[fitsAll,ih,Bool.and_false]
theorem zRw:∀ {fs:List MFile}{bs:List(List UInt8)},bs.length≠fs.length→fitsAll fs bs=false
  | [],[],h=>absurd rfl h
  | [],_ :: _,_=>rfl
  | _ :: _,[],_=>rfl
  | f :: fs,b :: bs,h=>by
    rw[fitsAll,zRw(fs:=fs)(bs:=bs)(fun e=>h(by simp[e])),Bool.and_false]
theorem zSj{n:Nat}{s:Int}:binV .no .neq(.int .i64(n:Nat))(.int .i64 s)=some(.bool(!decide((n:Int)=s))):=by
  rw[zAg];simp only[intV];congr 2
theorem zW4{P Q R:Nat→Prop}{H:Heap}{m:Man}{vd vc vf v:Value}{xs:List(Value×List UInt8)}(hv:ManV P H m vd vc vf)(hx:BSS Q R H v xs)(hR:∀ b,R b→b<H.size)(hl:xs.length=m.files.length→xs.length≤1048576)(hb:∀ (i:Nat)(x:Value×List UInt8)(f:MFile),xs[i]? = some x→m.files[i]? = some f→(x.2.length:Int)=f.size→x.2.length≤1048576)(hT:ShaT H) :
    HCalls prg zDQ [.agg(manC m vd vc vf).toArray,v] H fun u H'=>u = .bool(fitsAll m.files(xs.map(·.2)))∧Keep(fun _=>False)H H':=by
  apply zIh
  unfold zF5
  simp only[zAC,zAp]
  generalize hH1:H.push(.cells(manC m vd vc vf).toArray zAc(0,0))=H1
  have k1:Keep(fun _=>False)H H1:=by rw[← hH1];exact Keep.push
  have a1:At H1 H.size(manC m vd vc vf):=by rw[← hH1];exact At.push
  have w:=hv.wf
  have g7:=(zCr a1 w).2.2
  have lf:lenV vf=some(.int .i64 m.files.length):=by have:=hv.f.len;rwa [List.length_map]at this
  have en:binV .no .neq(.int .i64(xs.length:Nat))(.int .i64(m.files.length:Nat))=some(.bool(!decide(xs.length=m.files.length))):=by
    rw[zAg];simp only[intV];congr 2;rw[Bool.eq_iff_iff];simp <;> omega
  rw[hx.len,zAa,zAq,zAa,Nat.zero_add,g7,zAa,lf,zAa,en,zAa,zAb]
  by_cases hne:xs.length=m.files.length
  · rw[if_neg(by simp[hne])]
    have hl:=hl hne
    refine J1_i(fun _ h=>fitsAll m.files(xs.map(·.2))=true∧Keep(fun _=>False)H h)(fun k hk=>?_)?_
    · rw[zAa,g7,zAa,lf,zAa]
      refine L1_i(fun u h=>∃ i:Nat,i≤m.files.length∧u = .int .i64(i:Nat)∧fitsAll(m.files.take i)((xs.map(·.2)).take i)=true∧Keep(fun _=>False)H1 h)(fun u _=>match u with | .int _ t=>m.files.length - t.toNat | _=>0)⟨0,Nat.zero_le _,rfl,rfl,Keep.refl⟩?_
      rintro _ h⟨i,hi,rfl,hall,kh⟩k2 hk2
      have e1:binV .no .lss(.int .i64(i:Nat))(.int .i64(m.files.length:Nat))=some(.bool(decide(i<m.files.length))):=by
        rw[zAg];simp only[intV];congr 2;rw[decide_eq_decide];omega
      rw[e1,zAa,zAb]
      by_cases hlt:i<m.files.length
      · rw[if_pos(by simpa using hlt)]
        have k0:=k1.trans kh
        have hg:m.files[i]? = some m.files[i]:=List.getElem?_eq_getElem hlt
        have hgx:xs[i]? = some(xs[i]'(by omega)):=List.getElem?_eq_getElem(by omega)
        obtain⟨b,o,hix,hpt,_⟩:=(hv.f.keep k0 fun _ _=>id).at(i:=i)(x:=fileC m.files[i])(by rw[List.getElem?_map,hg];rfl)
        have hwf:=w.files _(List.getElem_mem hlt)
        have hbl:=hb i _ _ hgx hg
        have hgb:(xs.map(·.2))[i]? = some(xs[i]'(by omega)).2:=by rw[List.getElem?_map,hgx];rfl
        have hft:=zQg hg hgb
        rw[hall,Bool.true_and]at hft
        have hfb:=zRv hg hgb
        generalize m.files[i]=f at *
        generalize(xs[i]'(by omega))=x at *
        rw[hix .i64,zAa,hpt.agg(zA3 hwf),zAa]
        simp only[zRt,zAp]
        generalize hH6:h.push(.cells(fileC zeroF).toArray zAt(0,0))=h6
        have k6:Keep(fun _=>False)h h6:=by rw[← hH6];exact Keep.push
        have a6:At h6 h.size(fileC zeroF):=by rw[← hH6];exact At.push
        obtain⟨h7,st7,a7,k7⟩:=a6.st(n:=34)(ds:=fileC f)(zA3 zOv)(zA3 hwf)zGz
        have g0:=k0.1
        have k07:Keep(fun _=>False)H h7:=(k0.trans k6).fresh k7 fun b hb=>by omega
        have k17:Keep(fun _=>False)H1 h7:=(kh.trans k6).fresh k7 fun b hb=>by have:=kh.1;omega
        have hx7:=hx.keep k07(fun _ _=>id)fun _ _=>id
        obtain⟨hs,p,hp,hld⟩:=hx7.at hgx
        have d33:=zPB a7.pt hwf
        have d1:=zRu a7.pt hwf
        rw[Nat.zero_add]at d33 d1
        rw[st7,zAi,hp .i64,zAa,hld,zAa,hs.len,zAa,zAq,zAa,Nat.zero_add,d33,zAa,zSj,zAa]
        have bad:fitAt f x.2=false→∀ g,Keep(fun _=>False)H g→Value.bool false = .bool(fitsAll m.files(xs.map(·.2)))∧Keep(fun _=>False)H g:=fun hf g kg=>⟨by rw[hfb hf],kg⟩
        cases hsz:decide((x.2.length:Int)=f.size)
        · simp only[zAl,Bool.not_true,Bool.not_false,zAh,zAj,zAd,zAb,zAa,if_true,if_false,Bool.false_eq_true,Bool.true_eq_false,decide_true,decide_false,reduceCtorEq,J1_eq,ex20,ex21,ex30,ex31,ex32,zAo,zAm]
          exact bad(by simp[fitAt,hsz])_ k07
        · have hbl:=hbl(of_decide_eq_true hsz)
          simp only[hp .i64,hld,zAq,Nat.zero_add,d1,zAl,Bool.not_true,Bool.not_false,zAh,zAj,zAd,zAb,zAa,if_true,if_false,Bool.false_eq_true,Bool.true_eq_false,decide_true,decide_false,reduceCtorEq,J1_eq,ex20,ex21,ex30,ex31,ex32,zAo,zAm]
          refine zAf(zUl hs(hT.keep k07 fun _ h=>h.elim)(fun b hb=>Nat.lt_of_lt_of_le(hR b hb)k07.1)(by omega))?_
          rintro _ h9⟨rfl,k9⟩
          have d1':=zRu(a7.keep k9 id).pt hwf
          rw[Nat.zero_add]at d1'
          refine⟨d1',?_⟩
          rw[zAm,zWQ zC3 hwf.sum,zAa]
          cases hsm:decide(shaF(6 :: x.2)=f.sum)
          · simp only[zAl,Bool.not_true,Bool.not_false,zAh,zAj,zAd,zAb,zAa,if_true,if_false,Bool.false_eq_true,Bool.true_eq_false,decide_true,decide_false,reduceCtorEq,J1_eq,ex20,ex21,ex30,ex31,ex32,zAo,zAm]
            exact bad(by simp[fitAt,hsm])_(k07.trans k9)
          · simp only[zAl,Bool.not_true,Bool.not_false,zAh,zAj,zAd,zAb,zAa,if_true,if_false,Bool.false_eq_true,Bool.true_eq_false,decide_true,decide_false,reduceCtorEq,J1_eq,ex20,ex21,ex30,ex31,ex32,zAo,zAm]
            rw[zAv(by omega),zAa]
            exact hk2 _ _⟨i+1,by omega,rfl,by rw[hft];simp[fitAt,of_decide_eq_true hsz,of_decide_eq_true hsm],k17.trans k9⟩(by show m.files.length - (i+1)<m.files.length - i;omega)
      · rw[if_neg(by simpa using hlt)]
        refine hk _ _⟨?_,k1.trans kh⟩
        rwa [List.take_of_length_le(by omega),List.take_of_length_le(by simp;omega)]at hall
    · rintro _ h⟨h1,h2⟩
      exact⟨by rw[h1],h2⟩
  · rw[if_pos(by simp[hne])]
    exact⟨by rw[zRw(by simpa using hne)],k1⟩
end Go.Proofs.YticdfkoncnnmmaaGreatDoor
namespace Go.Proofs.YticdfkoncnnmmaaGreatDoor
open Go.X Go.X.Diff
set_option maxRecDepth 100000
theorem zXZ{n m:Nat}:binV .no .gtr(.int .i64(n:Nat))(.int .i64(m:Nat))=some(.bool(decide(n > m))):=by
  rw[zAg];simp only[intV];congr 2;rw[decide_eq_decide];omega
theorem zW5{h:Heap}{q:Nat}{m:Man}{vd vc vf:Value}(a:At h q(manC m vd vc vf))(hm:m.wf):ld1 h(Ptr q 4)=some(str m.ver.pre):=a.ld(by
  obtain⟨x,y,z,e⟩:=Ver.cases3 hm.ver
  obtain⟨n,⟨p,pre⟩,d,c,f⟩:=m
  simp only at e
  subst e
  rfl)
end Go.Proofs.YticdfkoncnnmmaaGreatDoor
