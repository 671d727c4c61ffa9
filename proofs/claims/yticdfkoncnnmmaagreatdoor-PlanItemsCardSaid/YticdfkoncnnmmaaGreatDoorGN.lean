import Derived.Test.YticdfkoncnnmmaaGreatDoorGU
import Derived.Test.YticdfkoncnnmmaaGreatDoorGI
import Derived.Test.YticdfkoncnnmmaaGreatDoorGH
import Derived.Test.YticdfkoncnnmmaaGreatDoorGE
set_option linter.unusedSimpArgs false
set_option linter.unusedVariables false
set_option maxRecDepth 100000
namespace Go.Proofs.YticdfkoncnnmmaaGreatDoor
open Go.X Go.X.Diff
theorem zAw {v:Value}{l:List (Option Value×Value)}{p:Prop}:Mre ((some v,v) :: l) p↔Mre l p:=by simp
theorem zCz {a b:Value}:zDy 0 (.tuple #[a,b])=some a:=rfl
theorem zCA {a b:Value}:zDy 1 (.tuple #[a,b])=some b:=rfl
theorem zCw {a b c:Value}:zDy 0 (.tuple #[a,b,c])=some a:=rfl
theorem zCx {a b c:Value}:zDy 1 (.tuple #[a,b,c])=some b:=rfl
theorem zCy {a b c:Value}:zDy 2 (.tuple #[a,b,c])=some c:=rfl
def At (h:zAd)(q:Nat)(cs:List Value):Prop:=∃ T,h[q]? = some (.cells cs.toArray T (0,0))
section
variable {h h' H:zAd} {q:Nat} {cs:List Value}
theorem At.push {T:TypeId}:At (h.push (.cells cs.toArray T (0,0))) h.size cs:=⟨T,zAR⟩
theorem At.keep {S:Nat->Prop}(a:At h q cs)(k:Keep S h h')(hs:¬ S q):At h' q cs:=by obtain⟨T,a⟩:=a;exact⟨T,k.at a hs⟩
theorem At.lt (a:At h q cs):q<h.size:=by obtain⟨T,a⟩:=a;exact lt_of a
theorem At.pt (a:At h q cs):Pt h q 0 cs:=by obtain⟨T,a⟩:=a;exact Pt.of a
theorem At.ldN (a:At h q cs){n:Nat}(hn:cs.length=n):ldN n h (Ptr q 0)=some (.agg cs.toArray):=a.pt.agg hn
theorem At.ld (a:At h q cs){i:Nat}{v:Value}(hi:cs[i]? = some v):ld1 h (Ptr q i)=some v:=by obtain⟨T,a⟩:=a;exact zO0 a hi
theorem At.st (a:At h q cs){n:Nat}{ds:List Value}(hn:cs.length=n)(hd:ds.length=n)(h1:∀ c ∈ ds,c.oneCell'=true) :
  ∃ h',stN n h (Ptr q 0) (.agg ds.toArray)=some h'/\At h' q ds/\Keep (· = q) h h':=by
 obtain⟨T,a⟩:=a
 have:=zMH (n:=n) (o:=0) (A:=[]) (B:=cs) (C:=[]) (B':=ds) (by rw[List.nil_append,List.append_nil];exact a) rfl (by simp[hn]) hd (zRY h1)
 rw[List.nil_append,List.append_nil]at this
 exact⟨_,this,⟨T,zAt a⟩,Keep.set rfl⟩
theorem At.st1 (a:At h q cs){i:Nat}{v:Value}(hi:i<cs.length)(hv:v.oneCell'=true):∃ h',st1 h (Ptr q i) v=some h'/\At h' q (cs.set i v)/\Keep (· = q) h h':=by
 obtain⟨T,a⟩:=a
 exact⟨_,zUE a hi hv,⟨T,zAt a⟩,Keep.set rfl⟩
theorem _root_.Go.X.Keep.fresh {S:Nat->Prop}(k:Keep (fun _=>False) H h)(k2:Keep S h h')(hs:∀ b,S b->H.size<=b):Keep (fun _=>False) H h' :=
 ⟨Nat.le_trans k.1 k2.1,fun i hi _=>by rw[k2.2 i (Nat.lt_of_lt_of_le hi k.1) (fun h=>by have:=hs i h;omega),k.2 i hi id]⟩
end
theorem Ver.cases3 {v:Ver}(h:v.wf):∃ a b c,v.p=[a,b,c]:=by
 obtain⟨p,pre⟩:=v
 have:=h.p3
 match p,this with
 | [a,b,c],_=>exact⟨a,b,c,rfl⟩
section
variable {h:zAd} {q:Nat} {v:Ver}
theorem zM1 (a:At h q (zCt v))(hv:v.wf):ldN 4 h (Ptr q 0)=some (.agg (zCt v).toArray):=a.ldN (zBD hv)
theorem zYO (a:At h q (zCt v))(hv:v.wf):ld1 h (Ptr q 3)=some (str v.pre):=a.ld (by
 unfold zCt
 rw[List.getElem?_append_right (by simp[hv.p3])]
 simp[hv.p3])
theorem zOM (a:At h q (zCt v)){i:Nat}{x:Int}(hi:v.p[i]? = some x):ld1 h (Ptr q i)=some (.int .i64 x):=a.ld (by
 unfold zCt
 have hlt:=(List.getElem?_eq_some_iff.1 hi).1
 rw[List.getElem?_append_left (by simpa using hlt)]
 exact zFP hi)
end
theorem zAiy:zAB prg zAn=some (zCt ⟨[0,0,0],[]⟩).toArray:=by kernel_rfl
def zB2:Ver:=⟨[0,0,0],[]⟩
theorem zEM:zB2.wf:=⟨rfl,by simp[zB2]⟩
theorem zAg8:zA4 prg zAn []=some (.agg (zCt zB2).toArray):=by kernel_rfl
theorem zYP:∀ {i:Nat} {p p2:List Int} {a b:Int},p.take i=p2.take i->p[i]? = some a->p2[i]? = some b->a≠b->zRZ p p2=zXe a b
 | 0,x :: p,y :: p2,a,b,_,h1,h2,hne=>by
  simp at h1 h2
  subst h1 h2
  rw[zKb,if_pos]
  rw[ne_eq,zIC.zero];exact hne
 | i+1,x :: p,y :: p2,a,b,ht,h1,h2,hne=>by
  simp only[List.take_succ_cons,List.cons.injEq]at ht
  obtain⟨rfl,ht⟩:=ht
  rw[zKb,if_neg (by rw[Classical.not_not];exact zIC.self x)]
  exact zYP ht (by simpa using h1) (by simpa using h2) hne
 | i,[],_,a,b,_,h1,_,_=>by simp at h1
 | i,_ :: _,[],a,b,_,_,h2,_=>by simp at h2
theorem zWb {p p2:List Int}{i:Nat}{a:Int}(ht:p.take i=p2.take i)(h1:p[i]? = some a)(h2:p2[i]? = some a):p.take (i+1)=p2.take (i+1):=by
 rw[List.take_add_one,List.take_add_one,ht,h1,h2]
theorem zWc:∀ {a b:List UInt8},Lib.compareBytes a b=zK6 a b
 | [],[]=>rfl
 | [],_ :: _=>rfl
 | _ :: _,[]=>rfl
 | a :: x,b :: y=>by
  rw[Lib.compareBytes,zWc (a:=x) (b:=y)]
  unfold zK6
  have e1:less (a :: x) (b :: y)=(decide (a<b) || (a == b && less x y)):=rfl
  have e2:less (b :: y) (a :: x)=(decide (b<a) || (b == a && less y x)):=rfl
  rw[e1,e2]
  by_cases h1:a<b
  ·simp[h1]
  ·by_cases h2:b<a
   ·have hne:a≠b:=fun e=>by subst e;exact h1 h2
    simp[h1,h2,hne]
   ·have:a=b:=UInt8.le_antisymm (UInt8.not_lt.1 h2) (UInt8.not_lt.1 h1)
    subst this;simp[h1]
theorem zAbe {H:zAd}{a b:Int}:zAg prg zH8 [.int .i64 a,.int .i64 b] H fun u H'=>u = .int .i64 (zXe a b)/\H=H':=by
 have nan:∀ x:Int,zAg prg zHr [.int .i64 x] H fun u H'=>u = .bool false/\H=H':=fun x=>by
  apply zMj
  unfold zL5
  simp only[zAi,zA9,zAa,bne_self_eq_false]
  exact⟨by trivial,by trivial⟩
 apply zLj
 unfold zKB
 refine zAk (nan a) ?_
 rintro _ _ ⟨rfl,rfl⟩
 refine zAk (nan b) ?_
 rintro _ _ ⟨rfl,rfl⟩
 simp only[zAq,Bool.not_true,Bool.not_false,zAl,zAo,zAe,zAc,zAa,if_true,if_false,Bool.false_eq_true,Bool.true_eq_false,decide_true,decide_false,reduceCtorEq,zAF,zCz,zCA,zCw,zCx,zCy,zAw,zAr,zAi,zA9,decide_eq_true_eq]
 unfold zXe
 by_cases h1:a<b
 ·simp[h1]
 ·by_cases h2:a > b
  ·have h2':b<a:=h2
   simp[h1,h2']
  ·have h2':¬ b<a:=h2
   simp[h1,h2']
theorem zVa {H:zAd}{q r:Nat}{v w:Ver}(hv:v.wf)(hw:w.wf)(a:At H q (zCt v))(b:At H r (zCt w)) :
  zAg prg zDH [.slice (some ⟨q,0,none⟩) 3 3,.slice (some ⟨r,0,none⟩) 3 3] H fun u H'=>u = .int .i64 (zRZ v.p w.p)/\H=H':=by
 apply zHB
 unfold zFD
 have hp3:=hv.p3
 have hq3:=hw.p3
 refine zL2 (fun u h=>v.p=w.p/\H=h) (fun k3 hk3=>?_) ?_
 ·rw[zIf,zAa]
  refine zHU (fun u h=>∃ i:Nat,i<=3/\u = .int .i64 (i:Nat)/\v.p.take i=w.p.take i/\H=h) (fun u _=>match u with | .int _ t=>3 - t.toNat | _=>0) ⟨0,by omega,rfl,rfl,rfl⟩ ?_
  rintro _ _ ⟨i,hi,rfl,ht,rfl⟩ k hk
  have e3:((3:Nat):Int)=3:=rfl
  simp only[zAi,zA9,zAa,zAc,decide_eq_true_eq,e3]
  by_cases hlt:(i:Int)<3
  ·rw[if_pos hlt]
   have h1:v.p[i]? = some (v.p[i]'(by omega)):=List.getElem?_eq_getElem _
   have h2:w.p[i]? = some (w.p[i]'(by omega)):=List.getElem?_eq_getElem _
   generalize (v.p[i]'(by omega))=x at h1
   generalize (w.p[i]'(by omega))=y at h2
   have hinc:IntKind.i64.wrap ((i:Int)+1)=(i+1:Nat):=by rw[zAM] <;> omega
   have i1:ixS 1 (.slice (some ⟨q,0,none⟩) 3 3) (.int .i64 (i:Nat))=some (Ptr q i):=by
    simp only[ixS];rw[if_pos ⟨by omega,by omega⟩];simp
   have i2:ixS 1 (.slice (some ⟨r,0,none⟩) 3 3) (.int .i64 (i:Nat))=some (Ptr r i):=by
    simp only[ixS];rw[if_pos ⟨by omega,by omega⟩];simp
   have hge:¬ ((i:Int)>=3):=by omega
   simp only[i1,i2,zAa,zIf,e3,zOM a h1,zOM b h2,zAi,zA9,zAc,hinc,hge,zAq,Bool.not_true,Bool.not_false,zAl,zAo,zAe,zAc,zAa,if_true,if_false,Bool.false_eq_true,Bool.true_eq_false,decide_true,decide_false,reduceCtorEq,zAF,zCz,zCA,zCw,zCx,zCy,zAw,zAr]
   refine zAk zAbe ?_
   rintro _ _ ⟨rfl,rfl⟩
   simp only[zAi,zA9,zAa,zAc,bne_iff_ne,ne_eq,zIC.zero]
   by_cases hxy:x=y
   ·subst hxy
    rw[if_neg (by simp)]
    exact hk _ _ ⟨i+1,by omega,rfl,zWb ht h1 h2,rfl⟩ (by show 3 - (i+1)<3 - i;omega)
   ·rw[if_pos hxy,zYP ht h1 h2 hxy]
    exact⟨by trivial,by trivial⟩
  ·rw[if_neg hlt]
   rw[List.take_of_length_le (by omega),List.take_of_length_le (by omega)]at ht
   exact hk3 _ _ ⟨ht,rfl⟩
 rintro _ _ ⟨hp,rfl⟩
 rw[zIf,zAa,zIf,zAa]
 have e3:((3:Nat):Int)=3:=rfl
 have e4:¬ ((3:Int)<3):=by omega
 simp only[zAi,zA9,zAa,zAc,e3,e4,zAq,Bool.not_true,Bool.not_false,zAl,zAo,zAe,zAc,zAa,if_true,if_false,Bool.false_eq_true,Bool.true_eq_false,decide_true,decide_false,reduceCtorEq,zAF,zCz,zCA,zCw,zCx,zCy,zAw,zAr]
 exact⟨by rw[(zV6.zero _ _).2 hp],by trivial⟩
theorem zTY {args:Array Value}:xtV prg zCh args=Extern.BytealgCompare.compare args:=by kernel_rfl
theorem zPR {H:zAd}{a b:List UInt8}:zAg prg zEe [str a,str b] H fun u H'=>u = .int .i64 (zK6 a b)/\H=H':=by
 apply zLi
 unfold zKA
 refine zAk (R:=fun u H'=>u = .int .i64 (zK6 a b)/\H=H') ?_ fun u h hR=>hR
 apply zFE
 unfold zDW
 intro w hw
 refine⟨_,w,by rw[zTY];exact Lib.run_compareString _ _ w,zHd.rfl' w,?_,hw.symm⟩
 rw[<- zWc]
theorem zAfD {H:zAd}{v w:Ver}(hv:v.wf)(hw:w.wf):zAg prg zDO [.agg (zCt v).toArray,.agg (zCt w).toArray] H fun u H'=>u = .int .i64 (zAao v w)/\Keep (fun _=>False) H H':=by
 apply zJz
 unfold zHV
 simp only[zAN,zAs]
 generalize hH1:H.push (.cells (zCt v).toArray zAn (0,0))=H1
 have k1:Keep (fun _=>False) H H1:=by rw[<- hH1];exact Keep.push
 have a1:At H1 H.size (zCt v):=by rw[<- hH1];exact At.push
 generalize hH2:H1.push (.cells (zCt w).toArray zAn (0,0))=H2
 have k2:Keep (fun _=>False) H1 H2:=by rw[<- hH2];exact Keep.push
 have b1:At H2 H1.size (zCt w):=by rw[<- hH2];exact At.push
 have a2:=a1.keep k2 id
 have kk:=k1.trans k2
 have sl:∀ q:Nat,slA 3 1 (Ptr q 0) none none none=some (.slice (some ⟨q,0,none⟩) 3 3):=fun q=>by simp[slA,zKt,bnd]
 have e1:zP4 .eql ⟨v.pre.toArray⟩ ⟨#[]⟩=some (.bool (decide (v.pre=[]))):=zN1 (b:=[])
 have e2:zP4 .eql ⟨w.pre.toArray⟩ ⟨#[]⟩=some (.bool (decide (w.pre=[]))):=zN1 (b:=[])
 simp only[zAx,zAa,Nat.zero_add,sl]
 refine zAk (zVa hv hw a2 b1) ?_
 rintro _ _ ⟨rfl,rfl⟩
 have bb:∀ x y:Bool,zAh .bool .neq (.bool x) (.bool y)=some (.bool (x != y)):=fun x y=>by cases x <;> cases y <;> rfl
 unfold zAao
 have hne:((zRZ v.p w.p != 0)=true)=(zRZ v.p w.p≠0):=by simp
 simp only[zAi,zA9,zAa,zAc,hne]
 by_cases hz:zRZ v.p w.p≠0
 ·rw[if_pos hz,if_pos hz]
  exact⟨by trivial,kk⟩
 ·rw[if_neg hz,if_neg hz]
  unfold zAfC
  cases hx:decide (v.pre=[]) <;> cases hy:decide (w.pre=[]) <;> simp only[zAq,Bool.not_true,Bool.not_false,zAl,zAo,zAe,zAc,zAa,if_true,if_false,Bool.false_eq_true,Bool.true_eq_false,decide_true,decide_false,reduceCtorEq,zAF,zCz,zCA,zCw,zCx,zCy,zAw,zAr,zAx,Nat.zero_add,zYO a2 hv,zYO b1 hw,zEI,e1,e2,hx,hy,bb,bne_self_eq_false,Bool.bne_true,Bool.bne_false] <;> exact zPR.mono fun u h ⟨e,hh⟩=>⟨e,hh ▸ kk⟩
theorem zQU {a b:List UInt8}{q:EqK}(h:a.length+b.length<=9223372036854775807):zAh q .add (str a) (str b)=some (str (a++b)):=by rw[zEI];exact zSx h
theorem zBX {a b:List UInt8}{q:EqK}:zAh q .eql (str a) (str b)=some (.bool (decide (a=b))):=by rw[zEI];exact zN1
theorem zSL {a b:List UInt8}{q:EqK}:zAh q .neq (str a) (str b)=some (.bool (!decide (a=b))):=by rw[zEI];exact zUX
theorem ix0 {q:Nat}:ixA 3 1 (Ptr q 0) (.int .i64 0)=some (Ptr q 0):=zPe (i:=0) (by omega)
def zAbf:List (List UInt8):=[[61],[33,61],[60],[60,61],[62],[62,61],[94]]
def vp0 (v:Ver):Int:=v.p.getD 0 0
def vp1 (v:Ver):Int:=v.p.getD 1 0
def zVb (op:List UInt8)(w v:Ver):Bool :=
 bif decide (op=[61]) then !ltV v w && !ltV w v else
 bif decide (op=[33,61]) then ltV v w || ltV w v else
 bif decide (op=[60]) then ltV v w else
 bif decide (op=[60,61]) then !ltV w v else
 bif decide (op=[62]) then ltV w v else
 bif decide (op=[62,61]) then !ltV v w else
 bif decide (op=[94]) then !ltV v w && (vp0 v == vp0 w) && (vp0 w != 0 || vp1 v == vp1 w) else true
theorem _root_.Go.X.L0_i {body:(zAd->Prop)->zAd->Prop}{H:zAd}(I:zAd->Prop)(μ:zAd->Nat)(h0:I H)
  (hs:∀ h,I h->∀ k:zAd->Prop,(∀ h',I h'->μ h'<μ h->k h')->body k h):L0 body H:=by
 refine⟨fun vs h=>vs=[]/\I h,fun _ h=>μ h,⟨rfl,h0⟩,?_⟩
 rintro vs h _ ⟨rfl,hI⟩
 exact hs h hI _ fun h' hI' hm=>⟨⟨rfl,hI'⟩,hm⟩
theorem zAG {n:Nat}(h:n<=1099511627776):zAh .no .add (.int .i64 (n:Nat)) (.int .i64 1)=some (.int .i64 ((n+1:Nat):Int)):=by
 rw[zAi];simp only[zA9];rw[zAM (by omega) (by omega)];rfl
theorem zAbg {n:Nat}:zAh .no .lss (.int .i64 (n:Nat)) (.int .i64 0)=some (.bool false):=by
 rw[zAi];simp only[zA9];rw[decide_eq_false (by omega)]
theorem zAdN:zAh .no .lss (.int .i64 (-1)) (.int .i64 0)=some (.bool true):=rfl
theorem zAbh {n:Nat}:zAh .no .geq (.int .i64 (n:Nat)) (.int .i64 0)=some (.bool true):=by
 rw[zAi];simp only[zA9];rw[decide_eq_true (by omega)]
theorem zTZ {H:zAd}{l:List UInt8}{x:UInt8}:zAg prg zBe [str l,.int .u8 x.toNat] H fun u H'=>u = .int .i64 (Lib.indexByte l x)/\H=H':=by
 apply zCL
 unfold zCl
 intro w hw
 refine⟨_,w,by rw[zKG];exact Lib.run_indexByteString _ _ w,zHd.rfl' w,?_,hw.symm⟩
 simp
theorem zWd {H:zAd}{l:List UInt8}{c:UInt8}:zAg prg zB4 [str l,str [c]] H fun u H'=>u = .int .i64 (Lib.indexByte l c)/\H=H':=by
 apply zGL
 unfold zET
 have e1:zKL (str [c])=some (.int .i64 1):=rfl
 have e2:zAh .no .eql (.int .i64 1) (.int .i64 0)=some (.bool false):=rfl
 have e3:zAh .no .eql (.int .i64 1) (.int .i64 1)=some (.bool true):=rfl
 have e4:ixT (str [c]) (.int .i64 0)=some (.int .u8 c.toNat):=zI4 (i:=0) rfl
 have e5:=fun q=>zBX (q:=q) (a:=[c]) (b:=l)
 cases hx:decide ([c]=l) <;> simp only[e1,e2,e3,e4,e5,hx,zAq,Bool.not_true,Bool.not_false,zAl,zAo,zAe,zAc,zAa,if_true,if_false,Bool.false_eq_true,Bool.true_eq_false,decide_true,decide_false,reduceCtorEq,zAF,zCz,zCA,zCw,zCx,zCy,zAw,zAr]
 ·exact zAk zTZ fun u h hR=>hR
 ·have:l=[c]:=(of_decide_eq_true hx).symm
  subst this
  refine⟨?_,by trivial⟩
  simp[Lib.indexByte]
theorem zAbi {H:zAd}{l:List UInt8}{c:UInt8}:zAg prg zJQ [str l,str [c]] H fun u H'=>u = .int .i64 (Lib.indexByte l c)/\H=H':=by
 apply zMk
 unfold zL6
 exact zAk zWd fun u h hR=>hR
theorem zAdO {l:List UInt8}{o:Nat}(h:o<=l.length):slT (str l) none (some (.int .i64 (o:Nat)))=some (str (l.take o)):=by
 have:=zPf (l:=l) (lo:=0) (hi:=o) (a:=none) (b:=some (.int .i64 (o:Nat))) (Nat.zero_le _) h rfl (by simp[bnd,h])
 rwa [List.drop_zero]at this
theorem zSM {l:List UInt8}{o:Nat}(h:o<=l.length):slT (str l) (some (.int .i64 (o:Nat))) none=some (str (l.drop o)):=by
 have:=zPf (l:=l) (lo:=o) (hi:=l.length) (a:=some (.int .i64 (o:Nat))) (b:=none) h (Nat.le_refl _) (by simp[bnd,h]) rfl
 rwa [List.take_length]at this
theorem zAfE {H:zAd}{l:List UInt8}{c:UInt8}(hl:l.length<=1099511627776):zAg prg zDI [str l,str [c]] H fun u H'=>(∃ b:Bool,u = .tuple #[str (zSI c l),str (zUF c l),.bool b])/\H=H':=by
 apply zHC
 unfold zFF
 refine zAk zWd ?_
 rintro _ _ ⟨rfl,rfl⟩
 rcases zQT l c with he | ⟨o,he⟩
 ·rw[he]
  have e1:zAh .no .geq (.int .i64 (-1)) (.int .i64 0)=some (.bool false):=rfl
  obtain⟨h1,h2⟩:=zV8 (zR0 he)
  simp only[e1,zAq,Bool.not_true,Bool.not_false,zAl,zAo,zAe,zAc,zAa,if_true,if_false,Bool.false_eq_true,Bool.true_eq_false,decide_true,decide_false,reduceCtorEq,zAF,zCz,zCA,zCw,zCx,zCy,zAw,zAr]
  exact⟨⟨false,by rw[h1,h2]⟩,by trivial⟩
 ·rw[he]
  obtain⟨hlt,hni,hsp⟩:=zR1 he
  have e2:zKL (str [c])=some (.int .i64 1):=rfl
  have e4:=zAG (n:=o) (by omega)
  have e5:=zAbh (n:=o)
  simp only[e5,e2,e4,zAdO (Nat.le_of_lt hlt),zSM (show o+1<=l.length by omega),zAq,Bool.not_true,Bool.not_false,zAl,zAo,zAe,zAc,zAa,if_true,if_false,Bool.false_eq_true,Bool.true_eq_false,decide_true,decide_false,reduceCtorEq,zAF,zCz,zCA,zCw,zCx,zCy,zAw,zAr]
  refine⟨⟨true,?_⟩,by trivial⟩
  have:=zV9 (c:=c) (b:=l.drop (o+1)) hni
  rw[<- hsp]at this
  rw[this.1,this.2]
theorem zAg9 {H:zAd}{l:List UInt8}{c:UInt8}(hl:l.length<=1099511627776):zAg prg zLH [str l,str [c]] H fun u H'=>(∃ b:Bool,u = .tuple #[str (zSI c l),str (zUF c l),.bool b])/\H=H':=by
 apply zNy
 unfold zNK
 refine zAk (zAfE hl) ?_
 rintro _ _ ⟨⟨b,rfl⟩,rfl⟩
 simp only[zAq,Bool.not_true,Bool.not_false,zAl,zAo,zAe,zAc,zAa,if_true,if_false,Bool.false_eq_true,Bool.true_eq_false,decide_true,decide_false,reduceCtorEq,zAF,zCz,zCA,zCw,zCx,zCy,zAw,zAr]
 exact⟨⟨b,rfl⟩,by trivial⟩
theorem zQV {H:zAd}{l p:List UInt8}:zAg prg zCr [str l,str p] H fun u H'=>u = .bool (decide (p.length<=l.length) && decide (l.take p.length=p))/\H=H':=by
 apply zFG
 unfold zDX
 have e0:zAh .no .geq (.int .i64 (l.length:Nat)) (.int .i64 (p.length:Nat))=some (.bool (decide (p.length<=l.length))):=by
  rw[zAi];simp only[zA9];congr 2;rw[decide_eq_decide];omega
 simp only[zDU,zAa,e0]
 cases hx:decide (p.length<=l.length) <;> simp only[zAq,Bool.not_true,Bool.not_false,zAl,zAo,zAe,zAc,zAa,if_true,if_false,Bool.false_eq_true,Bool.true_eq_false,decide_true,decide_false,reduceCtorEq,zAF,zCz,zCA,zCw,zCx,zCy,zAw,zAr,Bool.false_and]
 ·trivial
 ·have:=of_decide_eq_true hx
  simp only[zAdO this,zBX,zAq,Bool.not_true,Bool.not_false,zAl,zAo,zAe,zAc,zAa,if_true,if_false,Bool.false_eq_true,Bool.true_eq_false,decide_true,decide_false,reduceCtorEq,zAF,zCz,zCA,zCw,zCx,zCy,zAw,zAr,Bool.true_and]
  trivial
structure zOb (qs qp qn:Nat)(l:List UInt8)(c:UInt8)(h:zAd):Prop where
 s:At h qs [str l]
 p:At h qp [str [c]]
 n:At h qn [.int .i64 0]
 ne:qs≠qp/\qs≠qn
theorem zR2 {qs qp qn:Nat}{l:List UInt8}{c:UInt8}(hl:l.length<=1099511627776) :
  zAhW prg (.func (.func zBJ) #[] #[Ptr qp 0,Ptr qs 0,Ptr qn 0]) ((zBR c l).map fun x=>[str x]) (fun b=>b=qs\/b=qp\/b=qn) (zOb qs qp qn l c):=by
 intro yv h0 J E hst hJ hbody sJ sE
 refine⟨zBJ,#[],#[Ptr qp 0,Ptr qs 0,Ptr qn 0],rfl,by kernel_rfl,?_⟩
 show zAg prg zBJ [yv,Ptr qp 0,Ptr qs 0,Ptr qn 0] h0 _
 apply zJ1
 unfold zIJ
 have e1:zKL (str [c])=some (.int .i64 1):=rfl
 have e2:zAh .no .eql (.int .i64 1) (.int .i64 0)=some (.bool false):=rfl
 refine zAeX (fun h=>h0=h) (fun k hk=>?_) ?_
 ·have:=hst.p.ld (i:=0) rfl
  simp only[this,zAa,e1,e2,zAc,Bool.false_eq_true,if_false]
  exact hk _ rfl
 rintro _ rfl
 have hn:((zBR c l).map fun x=>[str x]).length=(zBR c l).length:=by simp
 rw[hn]
 let I:zAd->Prop:=fun h=>∃ (pre:List (List UInt8)) (rest:List UInt8),zBR c l=pre++zBR c rest/\rest.length<=l.length/\zOb qs qp qn rest c h/\J pre.length h
 let fin:zAd->Prop:=fun h=>∃ (pre:List (List UInt8)) (rest:List UInt8),zBR c l=pre++[rest]/\zOb qs qp qn rest c h/\J pre.length h
 refine zAeX fin (fun k hk=>?_) ?_
 ·refine L0_i I (fun h=>match ld1 h (Ptr qs 0) with | some (.string s)=>s.size | _=>0) ⟨[],l,rfl,Nat.le_refl _,hst,hJ⟩ ?_
  rintro h ⟨pre,rest,hsp,hle,hs,hJ⟩ k2 hk2
  have d1:=hs.s.ld (i:=0) rfl
  have d2:=hs.p.ld (i:=0) rfl
  have d3:=hs.n.ld (i:=0) rfl
  simp only[d1,d2,zAa]
  refine zAk zAbi ?_
  rintro _ _ ⟨rfl,rfl⟩
  rcases zQT rest c with he | ⟨o,he⟩
  ·rw[he,zAdN,zAa,zAc,if_pos rfl]
   refine hk _ ⟨pre,rest,?_,hs,hJ⟩
   rw[hsp,zN9 (zR0 he)]
  ·obtain⟨hlt,hni,hre⟩:=zR1 he
   have hsr:zBR c rest=rest.take o :: zBR c (rest.drop (o+1)):=by
    conv=>lhs;rw[hre]
    exact zLV hni
   have e3:zAh .no .add (.int .i64 (o:Nat)) (.int .i64 0)=some (.int .i64 (o:Nat)):=by
    rw[zAi];simp only[zA9];rw[zAM (by omega) (by omega)];simp
   rw[he,zAbg,zAa,zAc,if_neg (by decide)]
   simp only[d1,d3,zAa,e3,zAdO (Nat.le_of_lt hlt)]
   have hget:((zBR c l).map fun x=>[str x])[pre.length]? = some [str (rest.take o)]:=by
    rw[List.getElem?_map,hsp,hsr,List.getElem?_append_right (Nat.le_refl _),Nat.sub_self];rfl
   refine(hbody _ _ _ hget hJ).mono ?_
   rintro v h' ⟨hsz,hS,hv⟩
   have keepA:∀ {q cs},(q=qs\/q=qp\/q=qn)->At h q cs->At h' q cs:=fun {q cs} hq ⟨T,a⟩=>⟨T,by rw[hS q hq (lt_of a)];exact a⟩
   have s':=keepA (.inl rfl) hs.s
   have p':=keepA (.inr (.inl rfl)) hs.p
   have n':=keepA (.inr (.inr rfl)) hs.n
   rcases hv with ⟨rfl,hJ'⟩ | ⟨rfl,hE⟩
   ·have d1':=s'.ld (i:=0) rfl
    have d2':=p'.ld (i:=0) rfl
    have e4:=zAG (n:=o) (by omega)
    obtain⟨h2,hst2,a2,k2'⟩:=s'.st1 (i:=0) (v:=str (rest.drop (o+1))) (by simp) rfl
    simp only[zAq,Bool.not_true,zAa,zAc,Bool.false_eq_true,if_false,d1',d2',e1,e4,zSM (show o+1<=rest.length by omega),hst2,zAm]
    refine hk2 _ ⟨pre++[rest.take o],rest.drop (o+1),by rw[hsp,hsr];simp,by simp;omega,⟨a2,p'.keep k2' (fun e=>hs.ne.1 e.symm),n'.keep k2' (fun e=>hs.ne.2 e.symm),hs.ne⟩,?_⟩ ?_
    ·rw[List.length_append]
     exact sJ _ _ _ hJ' (k2'.mono fun b _ hb => .inl hb)
    ·have:=a2.ld (i:=0) (v:=str (rest.drop (o+1))) rfl
     rw[this,d1]
     simp only[zGK,List.length_drop];omega
   ·simp only[zAq,Bool.not_false,zAa,zAc,if_true]
    exact .inr hE
 ·rintro h ⟨pre,rest,hsp,hs,hJ⟩
  have d1:=hs.s.ld (i:=0) rfl
  rw[d1,zAa]
  have hget:((zBR c l).map fun x=>[str x])[pre.length]? = some [str rest]:=by
   rw[List.getElem?_map,hsp,List.getElem?_append_right (Nat.le_refl _),Nat.sub_self];rfl
  refine(hbody _ _ _ hget hJ).mono ?_
  rintro v h' ⟨hsz,hS,hv⟩
  rcases hv with ⟨rfl,hJ'⟩ | ⟨rfl,hE⟩
  ·left
   rw[hsp,List.length_append];exact hJ'
  ·exact .inr hE
theorem zR3 {H:zAd}{l:List UInt8}{c:UInt8}:zAg prg zFa [str l,str [c]] H fun u H' =>
  ∃ qs qp qn,u = .func (.func zBJ) #[] #[Ptr qp 0,Ptr qs 0,Ptr qn 0]/\zOb qs qp qn l c H'/\(∀ b,(b=qs\/b=qp\/b=qn)->H.size<=b/\b<H'.size)/\Keep (fun _=>False) H H':=by
 apply zKU
 unfold zJZ
 refine zAk (R:=fun u H'=>∃ qs qp qn,u = .func (.func zBJ) #[] #[Ptr qp 0,Ptr qs 0,Ptr qn 0]/\zOb qs qp qn l c H'/\(∀ b,(b=qs\/b=qp\/b=qn)->H.size<=b/\b<H'.size)/\Keep (fun _=>False) H H') ?_ fun u h hR=>hR
 apply zKV
 unfold zJ0
 have c1:Value.cells (str l)=[str l].toArray:=rfl
 have c2:Value.cells (str [c])=[str [c]].toArray:=rfl
 have c3:Value.cells (.int .i64 0)=[Value.int .i64 0].toArray:=rfl
 simp only[zAs,c1,c2,c3]
 generalize hH1:H.push (.cells [str l].toArray zAz (0,0))=H1
 have k1:Keep (fun _=>False) H H1:=by rw[<- hH1];exact Keep.push
 have a1:At H1 H.size [str l]:=by rw[<- hH1];exact At.push
 have s1:H1.size=H.size+1:=by rw[<- hH1];simp
 generalize hH2:H1.push (.cells [str [c]].toArray zAz (0,0))=H2
 have k2:Keep (fun _=>False) H1 H2:=by rw[<- hH2];exact Keep.push
 have a2:At H2 H1.size [str [c]]:=by rw[<- hH2];exact At.push
 have s2:H2.size=H1.size+1:=by rw[<- hH2];simp
 generalize hH3:H2.push (.cells [Value.int .i64 0].toArray zGd (0,0))=H3
 have k3:Keep (fun _=>False) H2 H3:=by rw[<- hH3];exact Keep.push
 have a3:At H3 H2.size [.int .i64 0]:=by rw[<- hH3];exact At.push
 have s3:H3.size=H2.size+1:=by rw[<- hH3];simp
 refine⟨H.size,H1.size,H2.size,rfl,⟨(a1.keep k2 id).keep k3 id,a2.keep k3 id,a3,by omega,by omega⟩,?_,k1.trans (k2.trans k3)⟩
 intro b hb
 omega
end Go.Proofs.YticdfkoncnnmmaaGreatDoor
