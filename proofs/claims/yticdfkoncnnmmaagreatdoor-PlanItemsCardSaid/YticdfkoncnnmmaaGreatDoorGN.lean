import Derived.Test.YticdfkoncnnmmaaGreatDoorGU
import Derived.Test.YticdfkoncnnmmaaGreatDoorGI
import Derived.Test.YticdfkoncnnmmaaGreatDoorGH
import Derived.Test.YticdfkoncnnmmaaGreatDoorGE
set_option linter.unusedSimpArgs false
set_option linter.unusedVariables false
namespace Go.Proofs.YticdfkoncnnmmaaGreatDoor
open Go.X Go.X.Diff
set_option maxRecDepth 100000
theorem zAo{v:Value}{l:List(Option Value×Value)}{p:Prop}:Mre((some v,v) :: l)p↔Mre l p:=by simp
theorem ex20{a b:Value}:extV 0(.tuple #[a,b])=some a:=rfl
theorem ex21{a b:Value}:extV 1(.tuple #[a,b])=some b:=rfl
theorem ex30{a b c:Value}:extV 0(.tuple #[a,b,c])=some a:=rfl
theorem ex31{a b c:Value}:extV 1(.tuple #[a,b,c])=some b:=rfl
theorem ex32{a b c:Value}:extV 2(.tuple #[a,b,c])=some c:=rfl
def At(h:Heap)(q:Nat)(cs:List Value):Prop:=∃ T,h[q]? = some(.cells cs.toArray T(0,0))
section
variable{h h' H:Heap}{q:Nat}{cs:List Value}
theorem At.push{T:TypeId}:At(h.push(.cells cs.toArray T(0,0)))h.size cs:=⟨T,zAA⟩
theorem At.keep{S:Nat→Prop}(a:At h q cs)(k:Keep S h h')(hs:¬ S q):At h' q cs:=by obtain⟨T,a⟩:=a;exact⟨T,k.at a hs⟩
theorem At.lt(a:At h q cs):q<h.size:=by obtain⟨T,a⟩:=a;exact lt_of a
theorem At.pt(a:At h q cs):Pt h q 0 cs:=by obtain⟨T,a⟩:=a;exact Pt.of a
theorem At.ldN(a:At h q cs){n:Nat}(hn:cs.length=n):ldN n h(Ptr q 0)=some(.agg cs.toArray):=a.pt.agg hn
theorem At.ld(a:At h q cs){i:Nat}{v:Value}(hi:cs[i]? = some v):ld1 h(Ptr q i)=some v:=by obtain⟨T,a⟩:=a;exact ld_l a hi
theorem At.st(a:At h q cs){n:Nat}{ds:List Value}(hn:cs.length=n)(hd:ds.length=n)(h1:∀ c ∈ ds,c.oneCell'=true) :
    ∃ h',stN n h(Ptr q 0)(.agg ds.toArray)=some h'∧At h' q ds∧Keep(· = q)h h':=by
  obtain⟨T,a⟩:=a
  have:=zHU(n:=n)(o:=0)(A:=[])(B:=cs)(C:=[])(B':=ds)(by rw[List.nil_append,List.append_nil];exact a)rfl(by simp[hn])hd(zNt h1)
  rw[List.nil_append,List.append_nil]at this
  exact⟨_,this,⟨T,zAr a⟩,Keep.set rfl⟩
theorem At.st1(a:At h q cs){i:Nat}{v:Value}(hi:i<cs.length)(hv:v.oneCell'=true):∃ h',st1 h(Ptr q i)v=some h'∧At h' q(cs.set i v)∧Keep(· = q)h h':=by
  obtain⟨T,a⟩:=a
  exact⟨_,st_l a hi hv,⟨T,zAr a⟩,Keep.set rfl⟩
theorem _root_.Go.X.Keep.fresh{S:Nat→Prop}(k:Keep(fun _=>False)H h)(k2:Keep S h h')(hs:∀ b,S b→H.size≤b):Keep(fun _=>False)H h' :=
  ⟨Nat.le_trans k.1 k2.1,fun i hi _=>by rw[k2.2 i(Nat.lt_of_lt_of_le hi k.1)(fun h=>by have:=hs i h;omega),k.2 i hi id]⟩
end
theorem Ver.cases3{v:Ver}(h:v.wf):∃ a b c,v.p=[a,b,c]:=by
  obtain⟨p,pre⟩:=v
  have:=h.p3
  match p,this with
  | [a,b,c],_=>exact⟨a,b,c,rfl⟩
section
variable{h:Heap}{q:Nat}{v:Ver}
theorem zH3(a:At h q(verC v))(hv:v.wf):ldN 4 h(Ptr q 0)=some(.agg(verC v).toArray):=a.ldN(zAU hv)
theorem zSC(a:At h q(verC v))(hv:v.wf):ld1 h(Ptr q 3)=some(str v.pre):=a.ld(by
  unfold verC
  rw[List.getElem?_append_right(by simp[hv.p3])]
  simp[hv.p3])
theorem zK5(a:At h q(verC v)){i:Nat}{x:Int}(hi:v.p[i]? = some x):ld1 h(Ptr q i)=some(.int .i64 x):=a.ld(by
  unfold verC
  have hlt:=(List.getElem?_eq_some_iff.1 hi).1
  rw[List.getElem?_append_left(by simpa using hlt)]
  exact zDE hi)
end
theorem z_VV:zcells prg zAn=some(verC⟨[0,0,0],[]⟩).toArray:=by kernel_rfl
def zeroV:Ver:=⟨[0,0,0],[]⟩
theorem zCi:zeroV.wf:=⟨rfl,by simp[zeroV]⟩
theorem b_V0:buildV prg zAn []=some(.agg(verC zeroV).toArray):=by kernel_rfl
end Go.Proofs.YticdfkoncnnmmaaGreatDoor
namespace Go.Proofs.YticdfkoncnnmmaaGreatDoor
open Go.X Go.X.Diff
set_option maxRecDepth 100000
theorem zSD:∀ {i:Nat}{p p2:List Int}{a b:Int},p.take i=p2.take i→p[i]? = some a→p2[i]? = some b→a≠b→cmpL p p2=cmpI a b
  | 0,x :: p,y :: p2,a,b,_,h1,h2,hne=>by
    simp at h1 h2
    subst h1 h2
    rw[zGy,if_pos]
    rw[ne_eq,zEL.zero];exact hne
  | i+1,x :: p,y :: p2,a,b,ht,h1,h2,hne=>by
    simp only[List.take_succ_cons,List.cons.injEq]at ht
    obtain⟨rfl,ht⟩:=ht
    rw[zGy,if_neg(by rw[Classical.not_not];exact zEL.self x)]
    exact zSD ht(by simpa using h1)(by simpa using h2)hne
  | i,[],_,a,b,_,h1,_,_=>by simp at h1
  | i,_ :: _,[],a,b,_,_,h2,_=>by simp at h2
theorem zRb{p p2:List Int}{i:Nat}{a:Int}(ht:p.take i=p2.take i)(h1:p[i]? = some a)(h2:p2[i]? = some a):p.take(i+1)=p2.take(i+1):=by
  rw[List.take_add_one,List.take_add_one,ht,h1,h2]
theorem zRc:∀ {a b:List UInt8},Lib.compareBytes a b=cmpB a b
  | [],[]=>rfl
  | [],_ :: _=>rfl
  | _ :: _,[]=>rfl
  | a :: x,b :: y=>by
    rw[Lib.compareBytes,zRc(a:=x)(b:=y)]
    unfold cmpB
    have e1:less(a :: x)(b :: y)=(decide(a<b) || (a == b && less x y)):=rfl
    have e2:less(b :: y)(a :: x)=(decide(b<a) || (b == a && less y x)):=rfl
    rw[e1,e2]
    by_cases h1:a<b
    · simp[h1]
    · by_cases h2:b<a
      · have hne:a≠b:=fun e=>by subst e;exact h1 h2
        simp[h1,h2,hne]
      · have:a=b:=UInt8.le_antisymm(UInt8.not_lt.1 h2)(UInt8.not_lt.1 h1)
        subst this;simp[h1]
theorem zVG{H:Heap}{a b:Int}:HCalls prg zG3 [.int .i64 a,.int .i64 b] H fun u H'=>u = .int .i64(cmpI a b)∧H=H':=by
  have nan:∀ x:Int,HCalls prg zFX [.int .i64 x] H fun u H'=>u = .bool false∧H=H':=fun x=>by
    apply zLH
    unfold zKU
    simp only[zAg,intV,zAa,bne_self_eq_false]
    exact⟨by trivial,by trivial⟩
  apply zKS
  unfold zJH
  refine zAf(nan a)?_
  rintro _ _⟨rfl,rfl⟩
  refine zAf(nan b)?_
  rintro _ _⟨rfl,rfl⟩
  simp only[zAl,Bool.not_true,Bool.not_false,zAh,zAj,zAd,zAb,zAa,if_true,if_false,Bool.false_eq_true,Bool.true_eq_false,decide_true,decide_false,reduceCtorEq,J1_eq,ex20,ex21,ex30,ex31,ex32,zAo,zAm,zAg,intV,decide_eq_true_eq]
  unfold cmpI
  by_cases h1:a<b
  · simp[h1]
  · by_cases h2:a > b
    · have h2':b<a:=h2
      simp[h1,h2']
    · have h2':¬ b<a:=h2
      simp[h1,h2']
theorem zSg{H:Heap}{q r:Nat}{v w:Ver}(hv:v.wf)(hw:w.wf)(a:At H q(verC v))(b:At H r(verC w)) :
    HCalls prg zDl [.slice(some⟨q,0,none⟩)3 3,.slice(some⟨r,0,none⟩)3 3] H fun u H'=>u = .int .i64(cmpL v.p w.p)∧H=H':=by
  apply zHm
  unfold zFi
  have hp3:=hv.p3
  have hq3:=hw.p3
  refine J1_i(fun u h=>v.p=w.p∧H=h)(fun k3 hk3=>?_)?_
  · rw[zFu,zAa]
    refine L1_i(fun u h=>∃ i:Nat,i≤3∧u = .int .i64(i:Nat)∧v.p.take i=w.p.take i∧H=h)(fun u _=>match u with | .int _ t=>3 - t.toNat | _=>0)⟨0,by omega,rfl,rfl,rfl⟩?_
    rintro _ _⟨i,hi,rfl,ht,rfl⟩k hk
    have e3:((3:Nat):Int)=3:=rfl
    simp only[zAg,intV,zAa,zAb,decide_eq_true_eq,e3]
    by_cases hlt:(i:Int)<3
    · rw[if_pos hlt]
      have h1:v.p[i]? = some(v.p[i]'(by omega)):=List.getElem?_eq_getElem _
      have h2:w.p[i]? = some(w.p[i]'(by omega)):=List.getElem?_eq_getElem _
      generalize(v.p[i]'(by omega))=x at h1
      generalize(w.p[i]'(by omega))=y at h2
      have hinc:IntKind.i64.wrap((i:Int)+1)=(i+1:Nat):=by rw[zAx] <;> omega
      have i1:ixS 1(.slice(some⟨q,0,none⟩)3 3)(.int .i64(i:Nat))=some(Ptr q i):=by
        simp only[ixS];rw[if_pos⟨by omega,by omega⟩];simp
      have i2:ixS 1(.slice(some⟨r,0,none⟩)3 3)(.int .i64(i:Nat))=some(Ptr r i):=by
        simp only[ixS];rw[if_pos⟨by omega,by omega⟩];simp
      have hge:¬ ((i:Int)≥3):=by omega
      simp only[i1,i2,zAa,zFu,e3,zK5 a h1,zK5 b h2,zAg,intV,zAb,hinc,hge,zAl,Bool.not_true,Bool.not_false,zAh,zAj,zAd,zAb,zAa,if_true,if_false,Bool.false_eq_true,Bool.true_eq_false,decide_true,decide_false,reduceCtorEq,J1_eq,ex20,ex21,ex30,ex31,ex32,zAo,zAm]
      refine zAf zVG ?_
      rintro _ _⟨rfl,rfl⟩
      simp only[zAg,intV,zAa,zAb,bne_iff_ne,ne_eq,zEL.zero]
      by_cases hxy:x=y
      · subst hxy
        rw[if_neg(by simp)]
        exact hk _ _⟨i+1,by omega,rfl,zRb ht h1 h2,rfl⟩(by show 3 - (i+1)<3 - i;omega)
      · rw[if_pos hxy,zSD ht h1 h2 hxy]
        exact⟨by trivial,by trivial⟩
    · rw[if_neg hlt]
      rw[List.take_of_length_le(by omega),List.take_of_length_le(by omega)]at ht
      exact hk3 _ _⟨ht,rfl⟩
  rintro _ _⟨hp,rfl⟩
  rw[zFu,zAa,zFu,zAa]
  have e3:((3:Nat):Int)=3:=rfl
  have e4:¬ ((3:Int)<3):=by omega
  simp only[zAg,intV,zAa,zAb,e3,e4,zAl,Bool.not_true,Bool.not_false,zAh,zAj,zAd,zAb,zAa,if_true,if_false,Bool.false_eq_true,Bool.true_eq_false,decide_true,decide_false,reduceCtorEq,J1_eq,ex20,ex21,ex30,ex31,ex32,zAo,zAm]
  exact⟨by rw[(zQ6.zero _ _).2 hp],by trivial⟩
theorem zRd{args:Array Value}:xtV prg zCc args=Extern.BytealgCompare.compare args:=by kernel_rfl
theorem zNu{H:Heap}{a b:List UInt8}:HCalls prg zDp [str a,str b] H fun u H'=>u = .int .i64(cmpB a b)∧H=H':=by
  apply zKR
  unfold zJG
  refine zAf(R:=fun u H'=>u = .int .i64(cmpB a b)∧H=H')?_ fun u h hR=>hR
  apply zFC
  unfold zDJ
  intro w hw
  refine⟨_,w,by rw[zRd];exact Lib.run_compareString _ _ w,Same.rfl' w,?_,hw.symm⟩
  rw[← zRc]
theorem c_Cmp{H:Heap}{v w:Ver}(hv:v.wf)(hw:w.wf):HCalls prg zDe [.agg(verC v).toArray,.agg(verC w).toArray] H fun u H'=>u = .int .i64(cmpV v w)∧Keep(fun _=>False)H H':=by
  apply zJd
  unfold zHl
  simp only[zAC,zAp]
  generalize hH1:H.push(.cells(verC v).toArray zAn(0,0))=H1
  have k1:Keep(fun _=>False)H H1:=by rw[← hH1];exact Keep.push
  have a1:At H1 H.size(verC v):=by rw[← hH1];exact At.push
  generalize hH2:H1.push(.cells(verC w).toArray zAn(0,0))=H2
  have k2:Keep(fun _=>False)H1 H2:=by rw[← hH2];exact Keep.push
  have b1:At H2 H1.size(verC w):=by rw[← hH2];exact At.push
  have a2:=a1.keep k2 id
  have kk:=k1.trans k2
  have sl:∀ q:Nat,slA 3 1(Ptr q 0)none none none=some(.slice(some⟨q,0,none⟩)3 3):=fun q=>by simp[slA,bnds,bnd]
  have e1:strV .eql⟨v.pre.toArray⟩⟨#[]⟩=some(.bool(decide(v.pre=[]))):=zJc(b:=[])
  have e2:strV .eql⟨w.pre.toArray⟩⟨#[]⟩=some(.bool(decide(w.pre=[]))):=zJc(b:=[])
  simp only[zAq,zAa,Nat.zero_add,sl]
  refine zAf(zSg hv hw a2 b1)?_
  rintro _ _⟨rfl,rfl⟩
  have bb:∀ x y:Bool,binV .bool .neq(.bool x)(.bool y)=some(.bool(x != y)):=fun x y=>by cases x <;> cases y <;> rfl
  unfold cmpV
  have hne:((cmpL v.p w.p != 0)=true)=(cmpL v.p w.p≠0):=by simp
  simp only[zAg,intV,zAa,zAb,hne]
  by_cases hz:cmpL v.p w.p≠0
  · rw[if_pos hz,if_pos hz]
    exact⟨by trivial,kk⟩
  · rw[if_neg hz,if_neg hz]
    unfold cmpP
    cases hx:decide(v.pre=[]) <;> cases hy:decide(w.pre=[]) <;> simp only[zAl,Bool.not_true,Bool.not_false,zAh,zAj,zAd,zAb,zAa,if_true,if_false,Bool.false_eq_true,Bool.true_eq_false,decide_true,decide_false,reduceCtorEq,J1_eq,ex20,ex21,ex30,ex31,ex32,zAo,zAm,zAq,Nat.zero_add,zSC a2 hv,zSC b1 hw,zCg,e1,e2,hx,hy,bb,bne_self_eq_false,Bool.bne_true,Bool.bne_false] <;> exact zNu.mono fun u h⟨e,hh⟩=>⟨e,hh ▸ kk⟩
end Go.Proofs.YticdfkoncnnmmaaGreatDoor
namespace Go.Proofs.YticdfkoncnnmmaaGreatDoor
open Go.X Go.X.Diff
set_option maxRecDepth 100000
theorem zMd{a b:List UInt8}{q:EqK}(h:a.length+b.length≤9223372036854775807):binV q .add(str a)(str b)=some(str(a++b)):=by rw[zCg];exact zOk h
theorem zAX{a b:List UInt8}{q:EqK}:binV q .eql(str a)(str b)=some(.bool(decide(a=b))):=by rw[zCg];exact zJc
theorem zNI{a b:List UInt8}{q:EqK}:binV q .neq(str a)(str b)=some(.bool(!decide(a=b))):=by rw[zCg];exact zPs
theorem ix0{q:Nat}:ixA 3 1(Ptr q 0)(.int .i64 0)=some(Ptr q 0):=zKw(i:=0)(by omega)
def opsR:List(List UInt8):=[[61],[33,61],[60],[60,61],[62],[62,61],[94]]
def vp0(v:Ver):Int:=v.p.getD 0 0
def vp1(v:Ver):Int:=v.p.getD 1 0
def fitsF(op:List UInt8)(w v:Ver):Bool :=
  bif decide(op=[61])then !ltV v w && !ltV w v else
  bif decide(op=[33,61])then ltV v w || ltV w v else
  bif decide(op=[60])then ltV v w else
  bif decide(op=[60,61])then !ltV w v else
  bif decide(op=[62])then ltV w v else
  bif decide(op=[62,61])then !ltV v w else
  bif decide(op=[94])then !ltV v w && (vp0 v == vp0 w) && (vp0 w != 0 || vp1 v == vp1 w)else true
end Go.Proofs.YticdfkoncnnmmaaGreatDoor
namespace Go.Proofs.YticdfkoncnnmmaaGreatDoor
open Go.X Go.X.Diff
set_option maxRecDepth 100000
theorem _root_.Go.X.L0_i{body:(Heap→Prop)→Heap→Prop}{H:Heap}(I:Heap→Prop)(μ:Heap→Nat)(h0:I H)
    (hs:∀ h,I h→∀ k:Heap→Prop,(∀ h',I h'→μ h'<μ h→k h')→body k h):L0 body H:=by
  refine⟨fun vs h=>vs=[]∧I h,fun _ h=>μ h,⟨rfl,h0⟩,?_⟩
  rintro vs h _⟨rfl,hI⟩
  exact hs h hI _ fun h' hI' hm=>⟨⟨rfl,hI'⟩,hm⟩
theorem zAv{n:Nat}(h:n≤1099511627776):binV .no .add(.int .i64(n:Nat))(.int .i64 1)=some(.int .i64((n+1:Nat):Int)):=by
  rw[zAg];simp only[intV];rw[zAx(by omega)(by omega)];rfl
theorem zVH{n:Nat}:binV .no .lss(.int .i64(n:Nat))(.int .i64 0)=some(.bool false):=by
  rw[zAg];simp only[intV];rw[decide_eq_false(by omega)]
theorem zWS:binV .no .lss(.int .i64(-1))(.int .i64 0)=some(.bool true):=rfl
theorem zVI{n:Nat}:binV .no .geq(.int .i64(n:Nat))(.int .i64 0)=some(.bool true):=by
  rw[zAg];simp only[intV];rw[decide_eq_true(by omega)]
theorem zRe{H:Heap}{l:List UInt8}{x:UInt8}:HCalls prg zA7 [str l,.int .u8 x.toNat] H fun u H'=>u = .int .i64(Lib.indexByte l x)∧H=H':=by
  apply zCN
  unfold zB5
  intro w hw
  refine⟨_,w,by rw[zJR];exact Lib.run_indexByteString _ _ w,Same.rfl' w,?_,hw.symm⟩
  simp
theorem zRf{H:Heap}{l:List UInt8}{c:UInt8}:HCalls prg zBP [str l,str [c]] H fun u H'=>u = .int .i64(Lib.indexByte l c)∧H=H':=by
  apply zGL
  unfold zER
  have e1:lenT(str [c])=some(.int .i64 1):=rfl
  have e2:binV .no .eql(.int .i64 1)(.int .i64 0)=some(.bool false):=rfl
  have e3:binV .no .eql(.int .i64 1)(.int .i64 1)=some(.bool true):=rfl
  have e4:ixT(str [c])(.int .i64 0)=some(.int .u8 c.toNat):=zEg(i:=0)rfl
  have e5:=fun q=>zAX(q:=q)(a:=[c])(b:=l)
  cases hx:decide([c]=l) <;> simp only[e1,e2,e3,e4,e5,hx,zAl,Bool.not_true,Bool.not_false,zAh,zAj,zAd,zAb,zAa,if_true,if_false,Bool.false_eq_true,Bool.true_eq_false,decide_true,decide_false,reduceCtorEq,J1_eq,ex20,ex21,ex30,ex31,ex32,zAo,zAm]
  · exact zAf zRe fun u h hR=>hR
  · have:l=[c]:=(of_decide_eq_true hx).symm
    subst this
    refine⟨?_,by trivial⟩
    simp[Lib.indexByte]
theorem zVJ{H:Heap}{l:List UInt8}{c:UInt8}:HCalls prg zIv [str l,str [c]] H fun u H'=>u = .int .i64(Lib.indexByte l c)∧H=H':=by
  apply zLI
  unfold zKV
  exact zAf zRf fun u h hR=>hR
theorem sl_to{l:List UInt8}{o:Nat}(h:o≤l.length):slT(str l)none(some(.int .i64(o:Nat)))=some(str(l.take o)):=by
  have:=zKx(l:=l)(lo:=0)(hi:=o)(a:=none)(b:=some(.int .i64(o:Nat)))(Nat.zero_le _)h rfl(by simp[bnd,h])
  rwa [List.drop_zero]at this
theorem zNJ{l:List UInt8}{o:Nat}(h:o≤l.length):slT(str l)(some(.int .i64(o:Nat)))none=some(str(l.drop o)):=by
  have:=zKx(l:=l)(lo:=o)(hi:=l.length)(a:=some(.int .i64(o:Nat)))(b:=none)h(Nat.le_refl _)(by simp[bnd,h])rfl
  rwa [List.take_length]at this
theorem zXS{H:Heap}{l:List UInt8}{c:UInt8}(hl:l.length≤1099511627776):HCalls prg zDm [str l,str [c]] H fun u H'=>(∃ b:Bool,u = .tuple #[str(cutA c l),str(cutB c l),.bool b])∧H=H':=by
  apply zHn
  unfold zFj
  refine zAf zRf ?_
  rintro _ _⟨rfl,rfl⟩
  rcases zOa l c with he | ⟨o,he⟩
  · rw[he]
    have e1:binV .no .geq(.int .i64(-1))(.int .i64 0)=some(.bool false):=rfl
    obtain⟨h1,h2⟩:=zQ8(zO5 he)
    simp only[e1,zAl,Bool.not_true,Bool.not_false,zAh,zAj,zAd,zAb,zAa,if_true,if_false,Bool.false_eq_true,Bool.true_eq_false,decide_true,decide_false,reduceCtorEq,J1_eq,ex20,ex21,ex30,ex31,ex32,zAo,zAm]
    exact⟨⟨false,by rw[h1,h2]⟩,by trivial⟩
  · rw[he]
    obtain⟨hlt,hni,hsp⟩:=zO6 he
    have e2:lenT(str [c])=some(.int .i64 1):=rfl
    have e4:=zAv(n:=o)(by omega)
    have e5:=zVI(n:=o)
    simp only[e5,e2,e4,sl_to(Nat.le_of_lt hlt),zNJ(show o+1≤l.length by omega),zAl,Bool.not_true,Bool.not_false,zAh,zAj,zAd,zAb,zAa,if_true,if_false,Bool.false_eq_true,Bool.true_eq_false,decide_true,decide_false,reduceCtorEq,J1_eq,ex20,ex21,ex30,ex31,ex32,zAo,zAm]
    refine⟨⟨true,?_⟩,by trivial⟩
    have:=zQ9(c:=c)(b:=l.drop(o+1))hni
    rw[← hsp]at this
    rw[this.1,this.2]
theorem c_Cut{H:Heap}{l:List UInt8}{c:UInt8}(hl:l.length≤1099511627776):HCalls prg zJT [str l,str [c]] H fun u H'=>(∃ b:Bool,u = .tuple #[str(cutA c l),str(cutB c l),.bool b])∧H=H':=by
  apply zMt
  unfold zL1
  refine zAf(zXS hl)?_
  rintro _ _⟨⟨b,rfl⟩,rfl⟩
  simp only[zAl,Bool.not_true,Bool.not_false,zAh,zAj,zAd,zAb,zAa,if_true,if_false,Bool.false_eq_true,Bool.true_eq_false,decide_true,decide_false,reduceCtorEq,J1_eq,ex20,ex21,ex30,ex31,ex32,zAo,zAm]
  exact⟨⟨b,rfl⟩,by trivial⟩
theorem zOb{H:Heap}{l p:List UInt8}:HCalls prg zCf [str l,str p] H fun u H'=>u = .bool(decide(p.length≤l.length) && decide(l.take p.length=p))∧H=H':=by
  apply zFD
  unfold zDK
  have e0:binV .no .geq(.int .i64(l.length:Nat))(.int .i64(p.length:Nat))=some(.bool(decide(p.length≤l.length))):=by
    rw[zAg];simp only[intV];congr 2;rw[decide_eq_decide];omega
  simp only[zBI,zAa,e0]
  cases hx:decide(p.length≤l.length) <;> simp only[zAl,Bool.not_true,Bool.not_false,zAh,zAj,zAd,zAb,zAa,if_true,if_false,Bool.false_eq_true,Bool.true_eq_false,decide_true,decide_false,reduceCtorEq,J1_eq,ex20,ex21,ex30,ex31,ex32,zAo,zAm,Bool.false_and]
  · trivial
  · have:=of_decide_eq_true hx
    simp only[sl_to this,zAX,zAl,Bool.not_true,Bool.not_false,zAh,zAj,zAd,zAb,zAa,if_true,if_false,Bool.false_eq_true,Bool.true_eq_false,decide_true,decide_false,reduceCtorEq,J1_eq,ex20,ex21,ex30,ex31,ex32,zAo,zAm,Bool.true_and]
    trivial
structure SplitSt(qs qp qn:Nat)(l:List UInt8)(c:UInt8)(h:Heap):Prop where
  s:At h qs [str l]
  p:At h qp [str [c]]
  n:At h qn [.int .i64 0]
  ne:qs≠qp∧qs≠qn
theorem zO7{qs qp qn:Nat}{l:List UInt8}{c:UInt8}(hl:l.length≤1099511627776) :
    Iter prg(.func(.func zBv) #[] #[Ptr qp 0,Ptr qs 0,Ptr qn 0])((splitF c l).map fun x=>[str x])(fun b=>b=qs∨b=qp∨b=qn)(SplitSt qs qp qn l c):=by
  intro yv h0 J E hst hJ hbody sJ sE
  refine⟨zBv,#[],#[Ptr qp 0,Ptr qs 0,Ptr qn 0],rfl,by kernel_rfl,?_⟩
  show HCalls prg zBv [yv,Ptr qp 0,Ptr qs 0,Ptr qn 0] h0 _
  apply zJJ
  unfold zHX
  have e1:lenT(str [c])=some(.int .i64 1):=rfl
  have e2:binV .no .eql(.int .i64 1)(.int .i64 0)=some(.bool false):=rfl
  refine J0_i(fun h=>h0=h)(fun k hk=>?_)?_
  · have:=hst.p.ld(i:=0)rfl
    simp only[this,zAa,e1,e2,zAb,Bool.false_eq_true,if_false]
    exact hk _ rfl
  rintro _ rfl
  have hn:((splitF c l).map fun x=>[str x]).length=(splitF c l).length:=by simp
  rw[hn]
  let I:Heap→Prop:=fun h=>∃ (pre:List(List UInt8))(rest:List UInt8),splitF c l=pre++splitF c rest∧rest.length≤l.length∧SplitSt qs qp qn rest c h∧J pre.length h
  let fin:Heap→Prop:=fun h=>∃ (pre:List(List UInt8))(rest:List UInt8),splitF c l=pre++[rest]∧SplitSt qs qp qn rest c h∧J pre.length h
  refine J0_i fin(fun k hk=>?_)?_
  · refine L0_i I(fun h=>match ld1 h(Ptr qs 0)with | some(.string s)=>s.size | _=>0)⟨[],l,rfl,Nat.le_refl _,hst,hJ⟩?_
    rintro h⟨pre,rest,hsp,hle,hs,hJ⟩k2 hk2
    have d1:=hs.s.ld(i:=0)rfl
    have d2:=hs.p.ld(i:=0)rfl
    have d3:=hs.n.ld(i:=0)rfl
    simp only[d1,d2,zAa]
    refine zAf zVJ ?_
    rintro _ _⟨rfl,rfl⟩
    rcases zOa rest c with he | ⟨o,he⟩
    · rw[he,zWS,zAa,zAb,if_pos rfl]
      refine hk _⟨pre,rest,?_,hs,hJ⟩
      rw[hsp,zLP(zO5 he)]
    · obtain⟨hlt,hni,hre⟩:=zO6 he
      have hsr:splitF c rest=rest.take o :: splitF c(rest.drop(o+1)):=by
        conv=>lhs;rw[hre]
        exact zJu hni
      have e3:binV .no .add(.int .i64(o:Nat))(.int .i64 0)=some(.int .i64(o:Nat)):=by
        rw[zAg];simp only[intV];rw[zAx(by omega)(by omega)];simp
      rw[he,zVH,zAa,zAb,if_neg(by decide)]
      simp only[d1,d3,zAa,e3,sl_to(Nat.le_of_lt hlt)]
      have hget:((splitF c l).map fun x=>[str x])[pre.length]? = some [str(rest.take o)]:=by
        rw[List.getElem?_map,hsp,hsr,List.getElem?_append_right(Nat.le_refl _),Nat.sub_self];rfl
      refine(hbody _ _ _ hget hJ).mono ?_
      rintro v h'⟨hsz,hS,hv⟩
      have keepA:∀ {q cs},(q=qs∨q=qp∨q=qn)→At h q cs→At h' q cs:=fun{q cs}hq⟨T,a⟩=>⟨T,by rw[hS q hq(lt_of a)];exact a⟩
      have s':=keepA(.inl rfl)hs.s
      have p':=keepA(.inr(.inl rfl))hs.p
      have n':=keepA(.inr(.inr rfl))hs.n
      rcases hv with⟨rfl,hJ'⟩ | ⟨rfl,hE⟩
      · have d1':=s'.ld(i:=0)rfl
        have d2':=p'.ld(i:=0)rfl
        have e4:=zAv(n:=o)(by omega)
        obtain⟨h2,hst2,a2,k2'⟩:=s'.st1(i:=0)(v:=str(rest.drop(o+1)))(by simp)rfl
        simp only[zAl,Bool.not_true,zAa,zAb,Bool.false_eq_true,if_false,d1',d2',e1,e4,zNJ(show o+1≤rest.length by omega),hst2,zAi]
        refine hk2 _⟨pre++[rest.take o],rest.drop(o+1),by rw[hsp,hsr];simp,by simp;omega,⟨a2,p'.keep k2'(fun e=>hs.ne.1 e.symm),n'.keep k2'(fun e=>hs.ne.2 e.symm),hs.ne⟩,?_⟩?_
        · rw[List.length_append]
          exact sJ _ _ _ hJ'(k2'.mono fun b _ hb => .inl hb)
        · have:=a2.ld(i:=0)(v:=str(rest.drop(o+1)))rfl
          rw[this,d1]
          simp only[zC0,List.length_drop];omega
      · simp only[zAl,Bool.not_false,zAa,zAb,if_true]
        exact .inr hE
  · rintro h⟨pre,rest,hsp,hs,hJ⟩
    have d1:=hs.s.ld(i:=0)rfl
    rw[d1,zAa]
    have hget:((splitF c l).map fun x=>[str x])[pre.length]? = some [str rest]:=by
      rw[List.getElem?_map,hsp,List.getElem?_append_right(Nat.le_refl _),Nat.sub_self];rfl
    refine(hbody _ _ _ hget hJ).mono ?_
    rintro v h'⟨hsz,hS,hv⟩
    rcases hv with⟨rfl,hJ'⟩ | ⟨rfl,hE⟩
    · left
      rw[hsp,List.length_append];exact hJ'
    · exact .inr hE
theorem zO8{H:Heap}{l:List UInt8}{c:UInt8}:HCalls prg zEj [str l,str [c]] H fun u H' =>
    ∃ qs qp qn,u = .func(.func zBv) #[] #[Ptr qp 0,Ptr qs 0,Ptr qn 0]∧SplitSt qs qp qn l c H'∧(∀ b,(b=qs∨b=qp∨b=qn)→H.size≤b∧b<H'.size)∧Keep(fun _=>False)H H':=by
  apply zKk
  unfold zI1
  refine zAf(R:=fun u H'=>∃ qs qp qn,u = .func(.func zBv) #[] #[Ptr qp 0,Ptr qs 0,Ptr qn 0]∧SplitSt qs qp qn l c H'∧(∀ b,(b=qs∨b=qp∨b=qn)→H.size≤b∧b<H'.size)∧Keep(fun _=>False)H H')?_ fun u h hR=>hR
  apply zKl
  unfold zI2
  have c1:Value.cells(str l)=[str l].toArray:=rfl
  have c2:Value.cells(str [c])=[str [c]].toArray:=rfl
  have c3:Value.cells(.int .i64 0)=[Value.int .i64 0].toArray:=rfl
  simp only[zAp,c1,c2,c3]
  generalize hH1:H.push(.cells [str l].toArray zAu(0,0))=H1
  have k1:Keep(fun _=>False)H H1:=by rw[← hH1];exact Keep.push
  have a1:At H1 H.size [str l]:=by rw[← hH1];exact At.push
  have s1:H1.size=H.size+1:=by rw[← hH1];simp
  generalize hH2:H1.push(.cells [str [c]].toArray zAu(0,0))=H2
  have k2:Keep(fun _=>False)H1 H2:=by rw[← hH2];exact Keep.push
  have a2:At H2 H1.size [str [c]]:=by rw[← hH2];exact At.push
  have s2:H2.size=H1.size+1:=by rw[← hH2];simp
  generalize hH3:H2.push(.cells [Value.int .i64 0].toArray T_int(0,0))=H3
  have k3:Keep(fun _=>False)H2 H3:=by rw[← hH3];exact Keep.push
  have a3:At H3 H2.size [.int .i64 0]:=by rw[← hH3];exact At.push
  have s3:H3.size=H2.size+1:=by rw[← hH3];simp
  refine⟨H.size,H1.size,H2.size,rfl,⟨(a1.keep k2 id).keep k3 id,a2.keep k3 id,a3,by omega,by omega⟩,?_,k1.trans(k2.trans k3)⟩
  intro b hb
  omega
end Go.Proofs.YticdfkoncnnmmaaGreatDoor
