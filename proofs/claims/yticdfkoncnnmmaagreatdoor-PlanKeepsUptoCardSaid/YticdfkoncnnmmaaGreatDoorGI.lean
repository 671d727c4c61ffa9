import Derived.Test.YticdfkoncnnmmaaGreatDoorGH
import Derived.Lib.Bytealg
import Derived.Lib.Builder
import Derived.Lib.MakeNoZero
import Derived.Lib.UnsafeStr
set_option linter.unusedSimpArgs false
set_option linter.unusedVariables false
set_option maxRecDepth 100000
namespace Go.Proofs.YticdfkoncnnmmaaGreatDoor
open Go.X
def zQy (cs:List UInt8):List Value:=(List.range 256).map λi => .bool (cs.any λc=>c.toNat == i)
@[simp] theorem zAjc {cs:List UInt8}:(zQy cs).length=256:=by simp[zQy]
theorem zAc8 {cs:List UInt8}:(zQy cs).toArray.all (·.oneCell')=true:=by
 rw[zBq];intro v hv
 simp only[zQy,List.mem_toArray,zAo]at hv
 obtain⟨i,_,rfl⟩:=hv;rfl
theorem zAc9 {cs:List UInt8}{x:UInt8}:(zQy cs)[x.toNat]? = some (.bool (cs.contains x)):=by
 have hx:x.toNat<256:=x.toNat_lt
 simp only[zQy,zAq,List.getElem?_range hx,zAO]
 congr 2
 rw[zA1]
 simp only[zBp,beq_iff_eq,List.contains_iff_mem]
 constructor
 ·rintro⟨c,hc,he⟩;rwa [<- UInt8.toNat.inj he]
 ·intro h;exact⟨x,h,rfl⟩
theorem zAda {cs:List UInt8}{x:UInt8}:(zQy cs).set x.toNat (.bool true)=zQy (cs++[x]):=by
 apply zCI
 intro i
 rw[List.getElem?_set]
 by_cases hi:i<256
 ·simp only[zQy,zAq,List.getElem?_range hi,zAO,zAf,List.length_range,List.any_append,List.any_cons,List.any_nil,Bool.or_false]
  split
  ·rename_i h;subst h;rw[if_pos hi];simp
  ·rename_i h
   congr 2
   have:(x.toNat == i)=false:=by simpa using h
   rw[this,Bool.or_false]
 ·simp[zQy,hi]
  intro h;have:=x.toNat_lt;omega
theorem zAhD:zBF prg zCX=some (zQy []).toArray:=by kernel_rfl
theorem zAhE {H:zAw}{q:Nat}{cs:List UInt8}{T:TypeId}{f:Nat×Nat}(h:H[q]? = some (.cells (zQy cs).toArray T f)):ldN 256 H (Ptr q 0)=some (.agg (zQy cs).toArray) :=
 ldN_mid (A:=[]) (B:=zQy cs) (C:=[]) (by rw[zAX,zAS];exact h) rfl (by simp)
theorem zAhF {H:zAw}{q:Nat}{cs ds:List UInt8}{T:TypeId}(h:H[q]? = some (.cells (zQy cs).toArray T (0,0))):stN 256 H (Ptr q 0) (.agg (zQy ds).toArray)=some (H.setIfInBounds q (.cells (zQy ds).toArray T (0,0))):=by
 have:=zOA (n:=256) (o:=0) (A:=[]) (B:=zQy cs) (C:=[]) (B':=zQy ds) (by rw[zAX,zAS];exact h) rfl (by simp) (by simp) zAc8
 rw[zAX,zAS]at this
 exact this
theorem zTo {H:zAw}{cs:List UInt8}(hcs:∀ c∈cs,c.toNat<128)(hl:cs.length<=1000) :
  zAA prg zGO [str cs] H λu H'=>u = .tuple #[.agg (zQy cs).toArray,.bool true]/\Keep zAK H H':=by
 apply zKT
 unfold zJd
 simp only[zAhD,zBd,zBN,zEL,zAa]
 generalize hH1:H.push (.cells (zQy []).toArray zCX (0,0))=H1
 have k1:Keep zAK H H1:=by rw[<- hH1];exact Keep.push
 have hq1:H1[H.size]? = some (.cells (zQy []).toArray zCX (0,0)):=by rw[<- hH1];exact zCh
 refine zKl (λu h=>∃ i,i<=cs.length/\u = .int .i64 (i:Nat)/\h[H.size]? = some (.cells (zQy (cs.take i)).toArray zCX (0,0))/\Keep (· = H.size) H1 h) (λu _=>match u with | .int _ t=>cs.length-t.toNat|_=>0)
  ⟨0,zAz _,rfl,hq1,Keep.refl⟩ ?_
 rintro _ h ⟨i,hi,rfl,hq,kh⟩ k hk
 simp only[zAG,zC9,zAa,zAl,decide_eq_true_eq]
 by_cases hlt:(i:Int)<cs.length
 ·rw[if_pos hlt]
  have hlt':i<cs.length:=by omega
  have hg:cs[i]? = some cs[i]:=zAj hlt'
  have hc:=hcs cs[i] (by simp)
  have hx:cs[i].toNat<256:=cs[i].toNat_lt
  have hinc:IntKind.i64.wrap ((i:Int)+1)=(i+1:Nat):=by rw[zB8]<;>omega
  rw[zMO hg,zAa]
  simp only[zAG,zC9,zAa,zAl,decide_eq_true_eq]
  rw[if_neg (by omega),zSJ hx,zAa,zWu hq (by simpa using hx) rfl,zA0,zAda,hinc]
  refine hk _ _ ⟨i+1,hlt',rfl,?_,kh.trans (Keep.set rfl)⟩ (by show cs.length-(i+1)<cs.length-i;omega)
  rw[zBh hq,zAJ,hg];rfl
 ·rw[if_neg hlt]
  obtain rfl:i=cs.length:=by omega
  rw[zBx]at hq
  rw[zAhE hq,zAa,zAhF hq,zA0,zAhE (zBh hq),zAa]
  refine⟨rfl,?_⟩
  have:=k1.1;have:=kh.1
  refine⟨by simp;omega,λi hi _=>?_⟩
  rw[zAD,if_neg (by omega),kh.2 i (by omega) (by omega),k1.2 i hi id]
theorem zTP {H:zAw}{q:Nat}{cs:List UInt8}{T:TypeId}{f:Nat×Nat}(h:H[q]? = some (.cells (zQy cs).toArray T f)){x:UInt8} :
  zAA prg zD3 [Ptr q 0,.int .u8 x.toNat] H λu H'=>u = .bool (cs.contains x)/\H=H':=by
 apply zIR
 unfold zG2
 simp only[zHm,zAa]
 rw[zSJ x.toNat_lt,zAa,zRF h]
 have:=zAc9 (cs:=cs) (x:=x)
 simp only[List.getElem?_toArray,this,zAa]
 exact⟨by trivial,by trivial⟩
def zNq (cs l:List UInt8):List UInt8:=l.dropWhile cs.contains
def zMZ (cs l:List UInt8):List UInt8:=(l.reverse.dropWhile cs.contains).reverse
theorem zTQ {cs m:List UInt8}{x:UInt8}:zMZ cs (m++[x])=if cs.contains x then zMZ cs m else m++[x]:=by
 unfold zMZ
 rw[List.reverse_append]
 simp only[zCJ,List.reverse_nil,zAX,List.singleton_append,List.dropWhile_cons]
 split<;>simp
theorem dropWhile_nil {p:UInt8->Bool}{l:List UInt8}:l.dropWhile p=[]↔∀ x∈l,p x=true:=by
 induction l with
 | nil=>simp
 | cons a l ih =>
  rw[List.dropWhile_cons]
  by_cases h:p a=true
  ·rw[if_pos h,ih];simp[h]
  ·rw[if_neg h];simp[h]
theorem zXZ {cs l:List UInt8}:zNq cs (zMZ cs l)=[]↔∀ x∈l,cs.contains x=true:=by
 unfold zNq
 rw[dropWhile_nil]
 unfold zMZ
 constructor
 ·intro h
  have h2:∀ x∈l.reverse.dropWhile cs.contains,cs.contains x=true:=λx hx=>h x (List.mem_reverse.2 hx)
  have h3:l.reverse.dropWhile cs.contains=[]:=by
   cases hd:l.reverse.dropWhile cs.contains with
   | nil=>rfl
   | cons y t =>
    have:=List.head?_dropWhile_not (p:=cs.contains) l.reverse
    rw[hd]at this
    simp only[List.head?_cons]at this
    have h4:=h2 y (by rw[hd];simp)
    rw[h4]at this
    cases this
  intro x hx
  exact dropWhile_nil.1 h3 x (List.mem_reverse.2 hx)
 ·intro h x hx
  have:=(List.dropWhile_sublist cs.contains (l:=l.reverse)).subset (List.mem_reverse.1 hx)
  exact h x (List.mem_reverse.1 this)
theorem zSP {H:zAw}{q:Nat}{cs l:List UInt8}{T:TypeId}{f:Nat×Nat}(h:H[q]? = some (.cells (zQy cs).toArray T f)) :
  zAA prg zGr [str l,Ptr q 0] H λu H'=>u=str (zNq cs l)/\H=H':=by
 apply zKr
 unfold zIG
 simp only[zBN]
 refine zKl (λu h=>∃ m,u=str m/\zNq cs m=zNq cs l/\H=h) (λu _=>match u with | .string s=>s.size|_=>0) ⟨l,rfl,rfl,rfl⟩ ?_
 rintro _ _ ⟨m,rfl,hm,rfl⟩ k hk
 simp only[zEL,zAa,zAG,zC9,zAl,decide_eq_true_eq]
 cases m with
 | nil=>rw[if_neg (by simp)];exact⟨by rw[<- hm];rfl,by trivial⟩
 | cons x m =>
  rw[if_pos (by simp only[zAZ];omega)]
  have e:ixT (str (x::m)) (.int .i64 0)=some (.int .u8 x.toNat):=zMO (i:=0) rfl
  rw[e,zAa]
  refine zAM (zTP h) ?_
  rintro _ _ ⟨rfl,rfl⟩
  simp only[zA5,zAa,zAl]
  by_cases hc:cs.contains x=true
  ·rw[if_neg (by rw[hc];decide)]
   have e2:slT (str (x::m)) (some (.int .i64 1)) none=some (str m):=by
    have:=zQ9 (l:=x::m) (lo:=1) (hi:=(x::m).length) (a:=some (.int .i64 1)) (b:=none) (by simp) (zAi _) (by simp[bnd];omega) (by simp[bnd])
    simpa using this
   rw[e2,zAa]
   refine hk _ _ ⟨m,rfl,?_,rfl⟩ (by show(ByteArray.mk m.toArray).size<(ByteArray.mk (x::m).toArray).size;rw[zIt,zIt];simp)
   rw[<- hm];unfold zNq;rw[List.dropWhile_cons,if_pos hc]
  ·rw[if_pos (by rw[eq_false_of_ne_true hc];rfl)]
   refine⟨?_,by trivial⟩
   rw[<- hm];unfold zNq;rw[List.dropWhile_cons,if_neg hc]
theorem zRW {H:zAw}{q:Nat}{cs l:List UInt8}{T:TypeId}{f:Nat×Nat}(h:H[q]? = some (.cells (zQy cs).toArray T f))(hl:l.length<=9223372036854775807) :
  zAA prg zF2 [str l,Ptr q 0] H λu H'=>u=str (zMZ cs l)/\H=H':=by
 apply zJ1
 unfold zH5
 simp only[zBN]
 refine zKl (λu h=>∃ m,u=str m/\zMZ cs m=zMZ cs l/\m.length<=l.length/\H=h) (λu _=>match u with | .string s=>s.size|_=>0) ⟨l,rfl,rfl,zAi _,rfl⟩ ?_
 rintro _ _ ⟨m,rfl,hm,hml,rfl⟩ k hk
 simp only[zEL,zAa,zAG,zC9,zAl,decide_eq_true_eq]
 rcases List.eq_nil_or_concat m with rfl|⟨m,x,rfl⟩
 ·rw[if_neg (by simp)];exact⟨by rw[<- hm];rfl,by trivial⟩
 ·rw[List.concat_eq_append]at *
  rw[if_pos (by simp only[zAy,zAZ];omega)]
  have hw:IntKind.i64.wrap (((m++[x]).length:Int)-1)=(m.length:Nat):=by rw[zB8]<;>simp at hml ⊢ <;> omega
  have e:ixT (str (m++[x])) (.int .i64 (m.length:Nat))=some (.int .u8 x.toNat):=zMO (by simp)
  rw[hw,e,zAa]
  refine zAM (zTP h) ?_
  rintro _ _ ⟨rfl,rfl⟩
  simp only[zA5,zAa,zAl]
  by_cases hc:cs.contains x=true
  ·rw[if_neg (by rw[hc];decide)]
   have e2:slT (str (m++[x])) none (some (.int .i64 (m.length:Nat)))=some (str m):=by
    have:=zQ9 (l:=m++[x]) (lo:=0) (hi:=m.length) (a:=none) (b:=some (.int .i64 (m.length:Nat))) (zAz _) (by simp) (by simp[bnd]) (by simp[bnd];omega)
    simpa using this
   rw[e2,zAa]
   refine hk _ _ ⟨m,rfl,?_,by simp at hml;omega,rfl⟩ (by show(ByteArray.mk m.toArray).size<(ByteArray.mk (m++[x]).toArray).size;rw[zIt,zIt];simp)
   rw[<- hm,zTQ,if_pos hc]
  ·rw[if_pos (by rw[eq_false_of_ne_true hc];rfl)]
   refine⟨?_,by trivial⟩
   rw[<- hm,zTQ,if_neg hc]
theorem zAaP {H:zAw}{cs l:List UInt8}(hcs:∀ c∈cs,c.toNat<128)(h2:2<=cs.length)(h3:cs.length<=1000)(hl:l.length<=9223372036854775807) :
  zAA prg zGL [str l,str cs] H λu H'=>u=str (zNq cs (zMZ cs l))/\Keep zAK H H':=by
 apply zOE
 unfold zOD
 have e1:zR1 .eql ⟨l.toArray⟩ ⟨#[]⟩=some (.bool (decide (l=[]))):=zPN (b:=[])
 have e2:zR1 .eql ⟨cs.toArray⟩ ⟨#[]⟩=some (.bool (decide (cs=[]))):=zPN (b:=[])
 have hne:decide (cs=[])=false:=by cases cs<;>simp at h2 ⊢
 simp only[zGw,e1,e2,hne,zAa,zBN,zAL,zEL]
 by_cases h0:l=[]
 ·subst h0
  simp only[decide_true,zAc,if_false,zAt,if_true,zAa,zAl]
  exact⟨rfl,Keep.refl⟩
 ·have hd:decide (l=[])=false:=by simpa using h0
  have hn1:((cs.length:Int) == 1)=false:=by simp;omega
  simp only[hd,if_true,zAt,zAb,if_false,zAa,zAl,zAG,zC9,hn1,zAL]
  refine zAM (zTo hcs h3) ?_
  rintro _ h1 ⟨rfl,k1⟩
  simp only[zQ8,List.getElem?_toArray,zCS,zCT,zAa,zAhD,zBd]
  have hq:(h1.push (.cells (zQy []).toArray zCX (0,0)))[h1.size]? = some (.cells (zQy []).toArray zCX (0,0)):=zCh
  rw[zAhF hq,zA0,zAl,if_pos rfl]
  have hq2:=zBh (y := .cells (zQy cs).toArray zCX (0,0)) hq
  refine zAM (zRW hq2 hl) ?_
  rintro _ _ ⟨rfl,rfl⟩
  refine zAM (zSP hq2) ?_
  rintro _ _ ⟨rfl,rfl⟩
  refine⟨rfl,?_⟩
  have:=k1.1
  refine⟨by simp;omega,λi hi _=>?_⟩
  rw[zAD,if_neg (by omega),zB4,if_neg (by omega),k1.2 i hi id]
theorem zMy {args:Array Value}:xtV prg zFl args=Extern.BytealgIndexByte.indexByte args:=by kernel_rfl
theorem zWU {H:zAw}{l:List UInt8}{x:UInt8}:zAA prg zIp [str l,.int .u8 x.toNat] H λu H'=>u = .int .i64 (Lib.indexByte l x)/\H=H':=by
 apply zMd
 unfold zK5
 refine zAA.mono (R:=λu H'=>u = .int .i64 (Lib.indexByte l x)/\H=H') ?_ λu h hR=>hR
 apply zEC
 unfold zD8
 intro w hw
 refine⟨_,w,by rw[zMy];exact Lib.run_indexByteString _ _ w,zIU.rfl' w,?_,hw.symm⟩
 simp
def azL:List UInt8:=[97,98,99,100,101,102,103,104,105,106,107,108,109,110,111,112,113,114,115,116,117,118,119,120,121,122]
def zTp:List UInt8:=azL++[48,49,50,51,52,53,54,55,56,57]
def zTq:List UInt8:=zTp++[45]
def zMz (l:List UInt8):Bool:=decide (l≠[])&&decide (l.length<=32)&&decide (∀ x∈l,zTq.contains x=true)&&decide (Lib.indexByte azL (l.headD 0)>=0)
theorem zX0 {H:zAw}{l:List UInt8}(hl:l.length<=9223372036854775807):zAA prg zFY [str l] H λu H'=>u = .bool (zMz l)/\Keep zAK H H':=by
 apply zOe
 unfold zN0
 have e1:zR1 .neq ⟨l.toArray⟩ ⟨#[]⟩=some (.bool (!decide (l=[]))):=zWN (b:=[])
 simp only[zGw,e1,zAa,zBN,zAL,zEL,zAG,zC9]
 cases l with
 | nil=>simp[zMz,Keep.refl]
 | cons x l =>
  have hd:(!decide (x::l=[]))=true:=by simp
  have hi:ixT (str (x::l)) (.int .i64 0)=some (.int .u8 x.toNat):=zMO (i:=0) rfl
  simp only[hd,if_true,zAt,zAa]
  by_cases h32:(((x::l).length:Nat):Int)<=32
  ·have h32':(x::l).length<=32:=by omega
   simp only[h32,decide_true,zAL,if_true]
   refine zAM (zAaP (cs:=zTq) (by decide) (by decide) (by decide) hl) ?_
   rintro _ h1 ⟨rfl,k1⟩
   have e3:zR1 .eql ⟨(zNq zTq (zMZ zTq (x::l))).toArray⟩ ⟨#[]⟩=some (.bool (decide (zNq zTq (zMZ zTq (x::l))=[]))):=zPN (b:=[])
   have e4:decide (zNq zTq (zMZ zTq (x::l))=[])=decide (∀ y∈x::l,zTq.contains y=true):=by rw[decide_eq_decide];exact zXZ
   simp only[zGw,e3,e4,zAa]
   by_cases ha:∀ y∈x::l,zTq.contains y=true
   ·simp only[decide_eq_true ha,zAL,if_true,hi,zAa]
    refine zAM (zWU (l:=azL) (x:=x)) ?_
    rintro _ _ ⟨rfl,rfl⟩
    simp only[zAG,zC9,zAt,if_true,zAa]
    refine⟨?_,k1⟩
    unfold zMz
    rw[decide_eq_true ha,decide_eq_true h32']
    simp
   ·simp only[decide_eq_false ha,zAL,zAb,if_false,zAt,zAa]
    refine⟨?_,k1⟩
    unfold zMz
    rw[decide_eq_false ha];simp
  ·have h32':¬ (x::l).length<=32:=by omega
   simp only[h32,decide_false,zAL,zAb,if_false,zAt,zAa]
   refine⟨?_,Keep.refl⟩
   unfold zMz
   rw[decide_eq_false h32'];simp
def Row (F:zAY)(H:zAw)(v:Value)(l:List UInt8):Prop :=
 (v = .slice none 0 0/\l=[])\/∃ b c cs,v = .slice (some ⟨b,0,none⟩) l.length c/\F b/\l.length<=c/\H[b]? = some (.cells cs zCi (0,0))/\c<=cs.size/\0<c/\cs.toList.take l.length=zBG l
theorem Row.one {F:zAY}{H:zAw}{v:Value}{l:List UInt8}(h:Row F H v l):v.oneCell'=true:=by
 rcases h with ⟨rfl,_⟩|⟨b,c,cs,rfl,_⟩<;>rfl
theorem Row.len {F:zAY}{H:zAw}{v:Value}{l:List UInt8}(h:Row F H v l):zDA v=some (.int .i64 l.length):=by
 rcases h with ⟨rfl,rfl⟩|⟨b,c,cs,rfl,_⟩<;>rfl
theorem Row.keep {F S:zAY}{H H':zAw}{v:Value}{l:List UInt8}(h:Row F H v l)(k:Keep S H H')(hs:∀ b,F b->¬ S b):Row F H' v l:=by
 rcases h with h|⟨b,c,cs,rfl,hf,hc,hb,hr⟩
 ·exact .inl h
 ·exact .inr ⟨b,c,cs,rfl,hf,hc,k.at hb (hs b hf),hr⟩
theorem Row.app {F:zAY}{H:zAw}{s x:Value}{l m:List UInt8}{k:zAn}(h:Row F H s l)(hx:Bs H x m)(hlen:l.length+m.length<=140737488355328)(hf:F H.size)
  (hk:∀ v H',Row F H' v (l++m)->Keep F H H'->k v H'):zKf zCi 1 1 H s x k:=by
 rcases h with ⟨rfl,rfl⟩|⟨b,c,cs,rfl,hb',hc,hb,hle,h0c,hl⟩
 ·refine⟨none,0,0,m.length,(zBG m).toArray,rfl,hx,zIE,λh0=>?_,λh0=>⟨by simpa using hlen,Nat.one_pos,#[],rfl,λcap rest h1 h2 h3=>?_⟩⟩
  ·have:m=[]:=zBg.1 (by omega)
   subst this
   exact hk _ _ (.inl ⟨rfl,rfl⟩) Keep.refl
  ·refine hk _ _ (.inr ⟨H.size,cap,_,by simp,hf,by simpa using h1,zCh,?_,by omega,?_⟩) Keep.push
   ·simp at h3 ⊢;omega
   ·simp
 ·refine⟨some ⟨b,0,none⟩,l.length,c,m.length,(zBG m).toArray,rfl,hx,zIE,λh0=>?_,λh0=>⟨by simpa using hlen,Nat.one_pos,(zBG l).toArray,?_,λcap rest h1 h2 h3=>?_⟩⟩
  ·refine⟨_,zPt hb _ _ zKQ (by simp;omega) zIE,hk _ _ (.inr ⟨b,c,_,by simp,hb',by simpa using h0,zBh hb,?_,h0c,?_⟩) (Keep.set hb')⟩
   ·rw[zMp (by simp;omega)];exact hle
   ·show(List.take (0+l.length*1) cs.toList++zBG m++_).take (l++m).length=_
    rw[zCA,zAh,hl,zBc (by simp),<- zI9,zAs (by simp)]
  ·exact Bs.mk hb rfl (by omega) (by simpa using hl)
  ·refine hk _ _ (.inr ⟨H.size,cap,_,by simp,hf,by simpa using h1,zCh,?_,by omega,?_⟩) Keep.push
   ·simp at h3 ⊢;omega
   ·show(((zBG l).toArray++(zBG m).toArray++rest).toList).take (l++m).length=_
    simp only[Array.toList_append];rw[zBc (by simp),<- zI9,zAs (by simp)]
def BAt (F:zAY)(p:Nat)(H:zAw)(l:List UInt8):Prop :=
 ¬ F p/\∃ a v,H[p]? = some (.cells #[a,v] zB9 (0,0))/\(a = .pointer none\/a=Ptr p 0)/\Row F H v l
theorem BAt.keep {F S:zAY}{p:Nat}{H H':zAw}{l:List UInt8}(h:BAt F p H l)(k:Keep S H H')(hs:∀ b,Wr F p b->¬ S b):BAt F p H' l:=by
 obtain⟨h1,a,v,h2,h3,h4⟩:=h
 exact⟨h1,a,v,k.at h2 (hs p (.inr rfl)),h3,h4.keep k λb hb=>hs b (.inl hb)⟩
theorem zAaQ:zBF prg zB9=some #[.pointer none,.slice none 0 0]:=by kernel_rfl
theorem zWV {args:Array Value}:xtV prg zI7 args=Extern.AbiNoEscape.same args:=by kernel_rfl
theorem zAkz:prg.underlying zIs=some (.pointer zB9):=by kernel_rfl
theorem zAkA:prg.underlying zKP=some .unsafePointer:=by kernel_rfl
theorem i_B:∃ j,prg.info? zB9=some j/\j.size≠0:=by
 have h:(match prg.info? zB9 with|some j=>j.size != 0|none=>false)=true:=by kernel_rfl
 split at h
 ·rename_i j hj;exact⟨j,hj,by simpa using h⟩
 ·cases h
theorem zAhG:liesAt prg prg.depth zB9 (2 / prg.cellsOf zB9) 0 zB9 1=true:=by kernel_rfl
theorem zSQ {F:zAY}{p:Nat}{H:zAw}{l:List UInt8}(h:BAt F p H l) :
  zAA prg zDs [Ptr p 0] H λu H'=>u = .tuple #[]/\BAt F p H' l/\Keep (· = p) H H':=by
 apply zIQ
 unfold zG1
 obtain⟨hF,a,v,hp,ha,hr⟩:=h
 have d0:ld1 H (Ptr p 0)=some a:=by rw[zRF hp];rfl
 simp only[zHm,zBk,zAa,zAh,d0]
 rcases ha with rfl|rfl
 ·have e:zAB .ptr .eql (.pointer none) (.pointer none)=some (.bool true):=rfl
  simp only[e,zAa,zAl,if_true]
  obtain⟨j,hj,hj0⟩:=i_B
  intro w hw
  have hsh:w.shape? p=some (zB9,2):=by simp[World.shape?,hw,hp]
  refine⟨_,w,Lib.run_to_unsafe w ⟨p,0,none⟩ zAkz zAkA hj hj0 hsh (by show 0<2;omega),zIU.rfl' w,?_⟩
  rw[hw]
  intro w hw
  refine⟨Ptr p 0,w,by rw[zWV];exact Lib.run_noEscape w _,zIU.rfl' w,?_⟩
  rw[hw]
  intro w hw
  have hsh:w.shape? p=some (zB9,2):=by simp[World.shape?,hw,hp]
  refine⟨_,w,Lib.run_from_unsafe w ⟨p,0,none⟩ zAkA zAkz hj hsh zAhG,zIU.rfl' w,?_⟩
  rw[hw]
  show Mwr (st1 H (Ptr p 0) (Ptr p 0)) (λh4=>True/\BAt F p h4 l/\Keep (λx=>x=p) H h4)
  rw[zXU hp 0 _ (by simp) rfl,zA0]
  have k1:Keep (· = p) H (H.setIfInBounds p (.cells (#[.pointer none,v].setIfInBounds 0 (Ptr p 0)) zB9 (0,0))):=Keep.set rfl
  exact⟨by trivial,⟨hF,Ptr p 0,v,by rw[zBh hp];rfl,.inr rfl,hr.keep k1 λb hb e=>hF (e ▸ hb)⟩,k1⟩
 ·have e:zAB .ptr .eql (Ptr p 0) (.pointer none)=some (.bool false):=rfl
  have e2:zAB .ptr .neq (Ptr p 0) (Ptr p 0)=some (.bool false):=by
   show(eqV .ptr (.pointer (some ⟨p,0,none⟩)) (.pointer (some ⟨p,0,none⟩))).map (λb=>Value.bool (!b))=_
   simp[eqV]
  simp only[e,e2,zAa,zAl,zAb,if_false]
  exact⟨by trivial,⟨hF,Ptr p 0,v,hp,.inr rfl,hr⟩,Keep.refl⟩
theorem BAt.ld {F:zAY}{p:Nat}{H:zAw}{l:List UInt8}(h:BAt F p H l):∃ v,ld1 H (Ptr p 1)=some v/\Row F H v l/\∀ (x:Value) (H':zAw),H'[p]? = H[p]?->x.oneCell'=true->∃ H2,st1 H' (Ptr p 1) x=some H2/\Keep (· = p) H' H2/\∀ m,Row F H' x m->BAt F p H2 m:=by
 obtain⟨hF,a,v,hp,ha,hr⟩:=h
 refine⟨v,by rw[zRF hp];rfl,hr,λx H' hH hx=>?_⟩
 rw[hp]at hH
 refine⟨_,zXU hH 1 x (by simp) hx,Keep.set rfl,λm hm=>⟨hF,a,x,by rw[zBh hH];rfl,ha,hm.keep (Keep.set (S:=(· = p)) rfl) λb hb e=>hF (e ▸ hb)⟩⟩
theorem zNO {F:zAY}{p:Nat}{H:zAw}{l m:List UInt8}(h:BAt F p H l)(hlen:l.length+m.length<=140737488355328)(hf:∀ b,H.size<=b->F b) :
  zAA prg zDk [Ptr p 0,str m] H λu H'=>u = .tuple #[.int .i64 m.length,.nilIface]/\BAt F p H' (l++m)/\Keep (Wr F p) H H':=by
 apply zH3
 unfold zGl
 refine zAM (zSQ h) ?_
 rintro _ h1 ⟨rfl,hb,k1⟩
 obtain⟨v,hld,hr,hst⟩:=hb.ld
 simp only[zHm,zBk,zAa,zAh,hld]
 refine hr.app zAev hlen (hf _ k1.1) λx h2 hx k2=>?_
 obtain⟨h3,he,k3,hB⟩:=hst x h2 (k2.2 p (by obtain⟨_,a,v,hp,_⟩:=hb;exact lt_of hp) hb.1) hx.one
 simp only[he,zA0,zEL,zAa]
 exact⟨trivial,hB _ hx,((k1.mono λ_ _ h => .inr h).trans (k2.mono λ_ _ h => .inl h)).trans (k3.mono λ_ _ h => .inr h)⟩
theorem zUz {args:Array Value}:∃ t,prg.underlying t=some (.slice zCi)/\∃ ps,xtV prg zGC args=Extern.BytealgMakeNoZero.makeNoZero ps #[t] args :=
 ⟨zFa,by kernel_rfl,#[],by kernel_rfl⟩
theorem zAhH {F:zAY}{p n:Nat}{H:zAw}(h:BAt F p H [])(hn:n<=140737488355328)(hnil:∃ a,H[p]? = some (.cells #[a,.slice none 0 0] zB9 (0,0)))(hf:∀ b,H.size<=b->F b) :
  zAA prg zGP [Ptr p 0,.int .i64 n] H λu H'=>u = .tuple #[]/\BAt F p H' []/\Keep (Wr F p) H H':=by
 apply zKS
 unfold zJc
 have hF:=h.1
 obtain⟨a,hp⟩:=hnil
 have hcc:zAA prg zDs [Ptr p 0] H λu H'=>u = .tuple #[]/\BAt F p H' []/\Keep (· = p) H H'/\∃ a,H'[p]? = some (.cells #[a,.slice none 0 0] zB9 (0,0)):=by
  have ha:a = .pointer none\/a=Ptr p 0:=by
   obtain⟨_,a',v',hp',ha',_⟩:=h
   rw[hp]at hp';simp at hp';rw[hp'.1];exact ha'
  have hnone:BAt (λ_=>False) p H []:=⟨id,a,_,hp,ha,.inl ⟨rfl,rfl⟩⟩
  refine(zSQ hnone).mono ?_
  rintro u h1 ⟨hu,⟨_,a1,v1,hp1,ha1,hr1⟩,k1⟩
  rcases hr1 with ⟨rfl,_⟩|⟨b,c,cs,rfl,hfb,_⟩
  ·exact⟨hu,⟨hF,a1,_,hp1,ha1,.inl ⟨rfl,rfl⟩⟩,k1,a1,hp1⟩
  ·exact hfb.elim
 refine zAM hcc ?_
 rintro _ h1 ⟨rfl,hb,k1,a1,hp1⟩
 have d1:ld1 h1 (Ptr p 1)=some (.slice none 0 0):=by rw[zRF hp1];rfl
 have e0:¬ ((n:Int)<0):=by omega
 have hc:zAeh (.slice none 0 0)=some (.int .i64 (0:Nat)):=rfl
 have hl:zDA (.slice none 0 0)=some (.int .i64 (0:Nat)):=rfl
 have w0:IntKind.i64.wrap (((0:Nat):Int)-((0:Nat):Int))=0:=rfl
 simp only[zAG,zC9,e0,decide_false,zAa,zAl,zAb,if_false,zAav,zHm,zBk,zAh,d1,hc,hl,w0,decide_eq_true_eq]
 have kk:Keep (Wr F p) H h1:=k1.mono λ_ _ h => .inr h
 by_cases hn0:(0:Int)<n
 ·rw[if_pos hn0]
  refine zAM (R:=λu H'=>u = .tuple #[]/\BAt F p H' []/\Keep (Wr F p) h1 H') ?_ λu h2 ⟨hu,hb2,k2⟩=>⟨by trivial,hb2,kk.trans k2⟩
  apply zKU
  unfold zJe
  have w1:IntKind.i64.wrap (2*((0:Nat):Int))=0:=rfl
  have w2:IntKind.i64.wrap (0+(n:Int))=(n:Nat):=by rw[zB8]<;>omega
  simp only[zHm,zBk,zAa,zAh,d1,hc,hl,zAG,zC9,w1,w2]
  obtain⟨t,ht,ps,hxt⟩:=zUz (args:=#[.int .i64 n])
  rw[hxt]
  intro w hw
  obtain⟨cs,hrun,hsz,_⟩:=Lib.run_makeNoZero (P:=prg) w ps t zCi ht n (by omega)
  refine⟨_,_,hrun,⟨rfl,rfl,rfl,zFu.push⟩,?_⟩
  have hheap:(w.drew.drew.alloc (.cells cs zCi)).heap=h1.push (.cells cs zCi (0,0)):=by rw[<- hw];rfl
  have hws:w.heap.size=h1.size:=by rw[hw]
  rw[hheap,hws]
  have hp2:=zR6 (y := .cells cs zCi (0,0)) hp1
  have d2:ld1 (h1.push (.cells cs zCi (0,0))) (Ptr p 1)=some (.slice none 0 0):=by rw[zRF hp2];rfl
  have hsl:slS 1 (.slice (some ⟨h1.size,0,none⟩) n cs.size) none (some (.int .i64 (0:Nat))) none=some (.slice (some ⟨h1.size,0,none⟩) 0 cs.size):=by
   have:cs.size≠0:=by omega
   simp[slS,zMj,bnd,this]
  simp only[d2,zXS,zA7,true_and,hsl,zAa]
  have hq:(h1.push (.cells cs zCi (0,0)))[h1.size]? = some (.cells cs zCi (0,0)):=zCh
  refine zAjt hq (zAz _) rfl ?_
  have hb2:=hb.keep (S:=λ_=>False) (Keep.push (o := .cells cs zCi (0,0))) λ_ _=>id
  rw[zXU hp2 1 _ (by simp) rfl,zA0]
  have k3:Keep (· = p) (h1.push (.cells cs zCi (0,0))) ((h1.push (.cells cs zCi (0,0))).setIfInBounds p (.cells (#[a1,.slice none 0 0].setIfInBounds 1 (.slice (some ⟨h1.size,0,none⟩) 0 cs.size)) zB9 (0,0))):=Keep.set rfl
  have hpn:h1.size≠p:=λe=>by have:=lt_of hp1;omega
  refine⟨?_,Keep.push.trans (k3.mono λ_ _ h => .inr h)⟩
  have ha1:a1 = .pointer none\/a1=Ptr p 0:=by
   obtain⟨_,a',v',hp',ha',_⟩:=hb
   rw[hp1]at hp';simp at hp';rw[hp'.1];exact ha'
  exact⟨hF,a1,_,by rw[zBh hp2];rfl,ha1,.inr ⟨h1.size,cs.size,cs,rfl,hf _ k1.1,zAz _,k3.at hq hpn,zAi _,by omega,rfl⟩⟩
 ·rw[if_neg hn0]
  exact⟨trivial,hb,kk⟩
theorem zNP {w:World}{b n:Nat}:(w.freeze ⟨b,0,none⟩ n).heap.size=w.heap.size/\(∀ i:Nat,i≠b->(w.freeze ⟨b,0,none⟩ n).heap[i]? = w.heap[i]?)/\∀ (i:Nat) (ds:Option (List Deferred)),w.heap[i]? = some (Obj.deferred ds)->(w.freeze ⟨b,0,none⟩ n).heap[i]? = some (Obj.deferred ds):=by
 unfold World.freeze
 split
 ·exact⟨rfl,λ_ _=>rfl,λ_ _ h=>h⟩
 ·refine⟨by simp,λi hi=>?_,λi ds h=>?_⟩
  ·simp only[Array.getElem?_modify];rw[if_neg (Ne.symm hi)]
  ·simp only[Array.getElem?_modify]
   split
   ·rw[h];rfl
   ·exact h
theorem zAhI:∃ t,(218:Nat)=t/\prg.underlying t=some (.pointer zCi):=⟨218,rfl,by kernel_rfl⟩
theorem zAkB:prg.cellsOf zCi=1:=by kernel_rfl
theorem zAaR {F:zAY}{p:Nat}{H:zAw}{l:List UInt8}(h:BAt F p H l)(hl:l.length<=140737488355328) :
  zAA prg zF1 [Ptr p 0] H λu H'=>u=str l/\Keep F H H':=by
 apply zJ0
 unfold zH4
 obtain⟨v,hld,hr,_⟩:=h.ld
 simp only[zHm,zBk,zAa,zAh,hld,hr.len]
 rcases hr with ⟨rfl,rfl⟩|⟨b,c,cs,rfl,hf,hc,hb,hle,h0c,hcs⟩
 ·have e:usd (.slice none 0 0)=some (.pointer none):=rfl
  rw[e,zAa]
  intro w hw
  refine⟨_,w,Lib.run_unsafeString_none w _ _ _ none,zIU.rfl' w,?_,by rw[hw];exact Keep.refl⟩
  rfl
 ·have e:usd (.slice (some ⟨b,0,none⟩) l.length c)=some (Ptr b 0):=by simp only[usd];rw[if_pos (by omega)]
  rw[e,zAa]
  intro w hw
  by_cases h0:l=[]
  ·subst h0
   refine⟨_,w,Lib.run_unsafeString_none w _ _ _ _,zIU.rfl' w,?_,by rw[hw];exact Keep.refl⟩
   rfl
  ·obtain⟨t,ht,hu⟩:=zAhI
   have hsh:w.shape? b=some (zCi,cs.size):=by simp[World.shape?,hw,hb]
   refine⟨_,_,Lib.run_unsafeString_row w _ _ _ zCi (by rw[ht];exact hu) zAkB b cs.size hsh l h0 (by omega) (by omega) ?_,?_,rfl,?_⟩
   ·intro j x hx
    have hlt:=(zAP.1 hx).1
    have:(zBG l)[j]? = some (.int .u8 x.toNat):=by simp[zBG,hx]
    rw[<- hcs,zCd,if_pos hlt]at this
    have e:(⟨b,0,none⟩:Addr).add j=⟨b,j,none⟩:=by
     unfold Addr.add;split
     ·rename_i h;subst h;rfl
     ·simp
    rw[e]
    unfold World.cell?
    simp only[hw,hb]
    rw[<- Array.getElem?_toList];exact this
   ·obtain⟨_,_,h3⟩:=zNP (w:=w) (b:=b) (n:=l.length)
    refine⟨?_,?_,?_,h3⟩<;>(unfold World.freeze;split<;>rfl)
   ·obtain⟨h1,h2,_⟩:=zNP (w:=w) (b:=b) (n:=l.length)
    rw[hw]at h1 h2
    exact⟨Nat.le_of_eq h1.symm,λi _ hn=>h2 i λe=>hn (e ▸ hf)⟩
def zUA (sep:List UInt8):List (List UInt8)->List UInt8
 | []=>[]
 | x::xs=>x++(xs.map (sep ++ ·)).flatten
def total (l:List (List UInt8)):Nat:=l.flatten.length
theorem zO7 {l:List (List UInt8)}{i:Nat}{x:List UInt8}(h:l[i]? = some x):total (l.take (i+1))=total (l.take i)+x.length:=by
 obtain⟨hlt,rfl⟩:=zAP.1 h
 unfold total
 rw[show l.take (i+1)=l.take i++[l[i]] by rw[zAJ,zAj hlt];rfl,zBz];simp
theorem zQz {l:List (List UInt8)}{i:Nat}:total (l.take i)<=total l:=by
 unfold total
 conv=>rhs;rw[<- zBn i l,zBz,zAy]
 omega
theorem zTR {sep:List UInt8}{l:List (List UInt8)}:((l.map (sep ++ ·)).flatten).length=sep.length*l.length+total l:=by
 unfold total
 induction l with
 | nil=>simp
 | cons x l ih=>simp only[zBa,zBv,zAy,zAZ,ih,Nat.mul_succ];omega
theorem zWW {sep:List UInt8}{l:List (List UInt8)}{i:Nat}{x:List UInt8}(h:l[i]? = some x):((l.take (i+1)).map (sep ++ ·)).flatten=(((l.take i).map (sep ++ ·)).flatten++sep)++x:=by
 obtain⟨hlt,rfl⟩:=zAP.1 h
 rw[show l.take (i+1)=l.take i++[l[i]] by rw[zAJ,zAj hlt];rfl,zAN,zBz];simp
abbrev zQA (l:List (List UInt8)):List (List Value):=zHn (l.map str)
theorem zUB {l:List (List UInt8)}{i:Nat}{x:List UInt8}(h:l[i]? = some x):(zQA l)[i]? = some [str x]:=zNc (by simp[h])
@[simp] theorem zQB {l:List (List UInt8)}:(zQA l).length=l.length:=by simp[zQA]
theorem zAhJ {P:zAY}{H:zAw}{v:Value}{sep:List UInt8}{l:List (List UInt8)}(hv:SlE 1 P H v (zQA l))(hP:∀ b,P b->b<H.size)(hn:l.length<=1048576)(hs:sep.length<=1048576)(ht:total l<=1099511627776) :
  zAA prg zMI [v,str sep] H λu H'=>u=str (zUA sep l)/\Keep zAK H H':=by
 apply zOC
 unfold zOB
 have hlen:=hv.len
 rw[zQB]at hlen
 simp only[hlen,zAa,zAG,zC9,zAl]
 match l,hv,hn,ht,hlen with
 | [],_,_,_,_=>rw[if_pos (by rfl)];exact⟨rfl,Keep.refl⟩
 | [x],hv,_,_,_ =>
  rw[if_neg (by simp),if_pos (by rfl)]
  obtain⟨b,o,hix,hpt,_⟩:=hv.at (i:=0) (x:=[str x]) rfl
  have hix:ixS 1 v (.int .i64 0)=some (Ptr b o):=hix .i64
  rw[hix,zAa,hpt.cell0 rfl,zAa]
  exact⟨by simp[zUA],Keep.refl⟩
 | x::y::l,hv,hn,ht,hlen =>
  generalize hL:x::y::l=L at *
  have hL2:2<=L.length:=by rw[<- hL];simp
  have hL0:L[0]? = some x:=by rw[<- hL];rfl
  have n0:((L.length:Int) == 0)=false:=by rw[beq_eq_false_iff_ne];omega
  have n1:((L.length:Int) == 1)=false:=by rw[beq_eq_false_iff_ne];omega
  rw[n0,if_neg (by decide),n1,if_neg (by decide)]
  have w1:IntKind.i64.wrap ((L.length:Int)-1)=((L.length-1:Nat):Int):=by rw[zB8]<;>omega
  have hq:(1:Int)<=Int.tdiv 9223372036854775807 ((L.length-1:Nat):Int)/\Int.tdiv 9223372036854775807 ((L.length-1:Nat):Int)<=9223372036854775807/\(sep.length:Int)<Int.tdiv 9223372036854775807 ((L.length-1:Nat):Int):=by
   rw[zCF (by omega)]
   have h1:(8796093022207:Int)<=9223372036854775807 / ((L.length-1:Nat):Int):=by
    rw[Int.le_ediv_iff_mul_le (by omega)]
    have:((L.length-1:Nat):Int)<=1048576:=by omega
    omega
   have h2:9223372036854775807 / ((L.length-1:Nat):Int)<=9223372036854775807:=Int.ediv_le_self _ (by omega)
   omega
  have w2:IntKind.i64.wrap (Int.tdiv 9223372036854775807 ((L.length-1:Nat):Int))=Int.tdiv 9223372036854775807 ((L.length-1:Nat):Int):=by rw[zB8]<;>omega
  have w3:IntKind.i64.wrap ((sep.length:Int)*((L.length-1:Nat):Int))=((sep.length*(L.length-1):Nat):Int):=by
   have hb:sep.length*(L.length-1)<=1048576*1048576:=Nat.mul_le_mul hs (by omega)
   rw[zB8]<;>rw[<- Int.natCast_mul]<;>omega
  have hb:sep.length*(L.length-1)<=1099511627776:=zBm (Nat.mul_le_mul hs (show L.length-1<=1048576 by omega)) (by decide)
  have w4:IntKind.i64.wrap (0+((sep.length*(L.length-1):Nat):Int))=((sep.length*(L.length-1):Nat):Int):=by rw[zB8]<;>omega
  have hne:¬ (((L.length-1:Nat):Int)=0):=by omega
  have hng:¬ ((sep.length:Int)>=Int.tdiv 9223372036854775807 ((L.length-1:Nat):Int)):=by omega
  refine zOd (λx h=>x = .int .i64 ((sep.length*(L.length-1):Nat):Int)/\H=h) (λk hk=>?_) ?_
  ·simp only[zEL,zAa,zAG,zC9,zAl,decide_eq_true_eq,zAav,w1]
   by_cases hs0:(sep.length:Int) > 0
   ·rw[if_pos hs0]
    simp only[hlen,zAa,zAG,zC9,zAl,decide_eq_true_eq,w1,if_neg hne,w2,if_neg hng,w3,w4]
    exact hk _ _ ⟨rfl,rfl⟩
   ·rw[if_neg hs0]
    have hs0':sep.length=0:=by omega
    exact hk _ _ ⟨by rw[hs0',Nat.zero_mul];rfl,rfl⟩
  ·rintro _ _ ⟨rfl,rfl⟩
   simp only[zAaw]
   refine zVE (λn i h=>∃ j:Nat,j<=L.length/\i = .int .i64 (j:Nat)/\n = .int .i64 ((sep.length*(L.length-1)+total (L.take j):Nat):Int)/\H=h) (λ_ i _=>match i with | .int _ i=>L.length-i.toNat|_=>0)
    ⟨0,zAz _,rfl,by simp[total],rfl⟩ ?_
   rintro _ _ _ ⟨j,hj,rfl,rfl,rfl⟩ k hk
   simp only[zAG,zC9,zAa,zAl,decide_eq_true_eq,zAav]
   have htj:=zQz (l:=L) (i:=j)
   by_cases hlt:(j:Int)<L.length
   ·rw[if_pos hlt]
    have hlt':j<L.length:=by omega
    have hg:L[j]? = some L[j]:=zAj hlt'
    obtain⟨b,o,hix,hpt,_⟩:=hv.at (zUB hg)
    have htj1:=zQz (l:=L) (i:=j+1)
    rw[zO7 hg]at htj1
    have e1:IntKind.i64.wrap (9223372036854775807-((sep.length*(L.length-1)+total (L.take j):Nat):Int))=9223372036854775807-((sep.length*(L.length-1)+total (L.take j):Nat):Int):=by rw[zB8]<;>omega
    have e2:IntKind.i64.wrap (((sep.length*(L.length-1)+total (L.take j):Nat):Int)+(L[j].length:Int))=((sep.length*(L.length-1)+total (L.take (j+1)):Nat):Int):=by rw[zO7 hg,zB8]<;>omega
    have e3:IntKind.i64.wrap ((j:Int)+1)=(j+1:Nat):=by rw[zB8]<;>omega
    simp only[hix,zAa,hpt.cell0 rfl,zEL,zAG,zC9,e1,e2,e3,zAl,decide_eq_true_eq]
    rw[if_neg (by omega)]
    exact hk _ _ _ ⟨j+1,hlt',rfl,rfl,rfl⟩ (by show L.length-(j+1)<L.length-j;omega)
   ·rw[if_neg hlt]
    obtain rfl:j=L.length:=by omega
    rw[zBx]
    simp only[zAaQ,zBd,zBN]
    generalize hp:H.size=p at *
    generalize hH1:H.push (.cells #[.pointer none,.slice none 0 0] zB9 (0,0))=H1
    have k1:Keep zAK H H1:=by rw[<- hH1];exact Keep.push
    have hs1:H1.size=p+1:=by rw[<- hH1];simp[hp]
    have hp1:H1[p]? = some (.cells #[.pointer none,.slice none 0 0] zB9 (0,0)):=by rw[<- hH1,<- hp];exact zCh
    have hB:BAt (p < ·) p H1 []:=⟨Nat.lt_irrefl _,_,_,hp1,.inl rfl,.inl ⟨rfl,rfl⟩⟩
    refine zAM (zAhH hB (by omega) ⟨_,hp1⟩ λb hb=>by omega) ?_
    rintro _ H2 ⟨rfl,hB2,k2⟩
    have k02:Keep (p <= ·) H H2:=(k1.mono λ_ _ h=>h.elim).trans (k2.mono λb _ h=>by rcases h with h|h<;>omega)
    obtain⟨b,o,hix,hpt,_⟩:=(hv.keep k02 λb hb hb'=>by have:=hP b hb;omega).at (zUB hL0)
    have hix:ixS 1 v (.int .i64 0)=some (Ptr b o):=hix .i64
    have hx0:x.length<=1099511627776:=by
     have:=zO7 hL0
     have:=zQz (l:=L) (i:=0+1)
     omega
    simp only[hix,zAa,hpt.cell0 rfl]
    refine zAM (zNO hB2 (by simp;omega) λb hb=>by have:=k02.1;have:=k2.1;omega) ?_
    rintro _ H3 ⟨rfl,hB3,k3⟩
    have k03:Keep (p <= ·) H H3:=k02.trans (k3.mono λb _ h=>by rcases h with h|h<;>omega)
    obtain⟨u,hu,hsu⟩:=hv.cut (by rw[<- hL];simp[zQA,zHn]) (lo:=1) (hi:=L.length) (by omega) (by simp) (l:=some (.int .i64 1)) (r:=none) (by simp[bnd];omega) (λc hc=>by simp[bnd])
    have hdrop:((zQA L).take L.length).drop 1=zQA (L.drop 1):=by
     rw[zAs (by simp)];simp[zQA,zHn,List.map_drop]
    rw[hdrop]at hsu
    have hlu:=hsu.len
    rw[zQB]at hlu
    simp only[hu,zAa,hlu]
    have hD:L=x::L.drop 1:=by rw[<- hL];rfl
    have hDl:(L.drop 1).length=L.length-1:=by simp
    generalize L.drop 1=D at *
    have hjl:zUA sep L=x++(D.map (sep ++ ·)).flatten:=by rw[hD];rfl
    have htD:total L=x.length+total D:=by rw[hD];simp[total]
    refine zKl (λi h=>∃ j:Nat,j<=D.length/\i = .int .i64 (j:Nat)/\BAt (p < ·) p h (x++((D.take j).map (sep ++ ·)).flatten)/\Keep (p <= ·) H h/\p<h.size) (λi _=>match i with | .int _ i=>D.length-i.toNat|_=>0)
     ⟨0,zAz _,rfl,by simpa using hB3,k03,by have:=k2.1;have:=k3.1;omega⟩ ?_
    rintro _ h ⟨j,hj,rfl,hBj,kj,hpj⟩ k hk
    simp only[zAG,zC9,zAa,zAl,decide_eq_true_eq]
    have hjt:((((D.take j).map (sep ++ ·)).flatten).length)=sep.length*(D.take j).length+total (D.take j):=zTR
    have htDj:=zQz (l:=D) (i:=j)
    have hmj:sep.length*(D.take j).length<=sep.length*(L.length-1):=Nat.mul_le_mul_left _ (by simp;omega)
    by_cases hlt:(j:Int)<D.length
    ·rw[if_pos hlt]
     have hlt':j<D.length:=by omega
     have hg:D[j]? = some D[j]:=zAj hlt'
     obtain⟨b,o,hix,hpt,_⟩:=(hsu.keep kj λb hb hb'=>by have:=hP b hb;omega).at (zUB hg)
     have htj1:=zQz (l:=D) (i:=j+1)
     rw[zO7 hg]at htj1
     have e3:IntKind.i64.wrap ((j:Int)+1)=(j+1:Nat):=by rw[zB8]<;>omega
     simp only[hix,zAa,hpt.cell0 rfl,e3]
     refine zAM (zNO hBj (by simp only[zAy,hjt];omega) λb hb=>by omega) ?_
     rintro _ h1 ⟨rfl,hB4,k4⟩
     refine zAM (zNO hB4 (by simp only[zAy,hjt];omega) λb hb=>by have:=k4.1;omega) ?_
     rintro _ h2 ⟨rfl,hB5,k5⟩
     refine hk _ _ ⟨j+1,hlt',rfl,?_,(kj.trans (k4.mono λb _ h=>by rcases h with h|h<;>omega)).trans (k5.mono λb _ h=>by rcases h with h|h<;>omega),by have:=k4.1;have:=k5.1;omega⟩ (by show D.length-(j+1)<D.length-j;omega)
     rw[zWW hg]
     simpa only[zBi] using hB5
    ·rw[if_neg hlt]
     obtain rfl:j=D.length:=by omega
     rw[zBx]at hBj
     have hjD:((D.map (sep ++ ·)).flatten).length=sep.length*D.length+total D:=zTR
     have hmD:sep.length*D.length<=sep.length*(L.length-1):=by rw[hDl];exact zAi _
     refine zAM (zAaR hBj (by simp only[zAy,hjD];omega)) ?_
     rintro _ h2 ⟨rfl,k5⟩
     rw[hjl]
     refine⟨by trivial,zBm kj.1 k5.1,λi hi _=>?_⟩
     rw[k5.2 i (by have:=kj.1;omega) (by omega),kj.2 i hi (by omega)]
def zDq (n:Nat):UInt8:=UInt8.ofNat (48+n)
def zSR (n:Nat):List UInt8:=if n<10 then [zDq n] else [zDq (n / 10),zDq (n % 10)]
theorem zAfY {H:zAw}{n:Nat}(hn:n<100):zAA prg zF7 [.int .i64 n] H λu H'=>u=str (zSR n)/\H=H':=by
 apply zJ2
 unfold zH6
 simp only[zAG,zC9,zAa,zAl,decide_eq_true_eq]
 have w1:IntKind.i64.wrap ((n:Int)+1)=(n+1:Nat):=by rw[zB8]<;>omega
 have w2:IntKind.i64.wrap ((n:Int)*2)=(n*2:Nat):=by rw[zB8]<;>omega
 have w3:IntKind.i64.wrap (((n*2:Nat):Int)+2)=(n*2+2:Nat):=by rw[zB8]<;>omega
 simp only[w1,w2,w3]
 by_cases h:(n:Int)<10
 ·rw[if_pos h]
  have hn':n<10:=by omega
  have:slT (str [48,49,50,51,52,53,54,55,56,57,97,98,99,100,101,102,103,104,105,106,107,108,109,110,111,112,113,114,115,116,117,118,119,120,121,122]) (some (.int .i64 n)) (some (.int .i64 (n+1:Nat)))=some (str (zSR n)):=by
   rw[zQ9 (lo:=n) (hi:=n+1) (by omega) (by simp;omega) (by simp[bnd];omega) (by simp[bnd];omega)]
   match n,hn' with
   | 0,_=>rfl|1,_=>rfl|2,_=>rfl|3,_=>rfl|4,_=>rfl
   | 5,_=>rfl|6,_=>rfl|7,_=>rfl|8,_=>rfl|9,_=>rfl
  have this':slT (.string ⟨#[48,49,50,51,52,53,54,55,56,57,97,98,99,100,101,102,103,104,105,106,107,108,109,110,111,112,113,114,115,116,117,118,119,120,121,122]⟩) (some (.int .i64 n)) (some (.int .i64 (n+1:Nat)))=some (str (zSR n)):=this
  rw[this',zAa]
  exact⟨by trivial,by trivial⟩
 ·rw[if_neg h]
  have hn':¬ n<10:=by omega
  generalize hs:(⟨#[48,48,48,49,48,50,48,51,48,52,48,53,48,54,48,55,48,56,48,57,49,48,49,49,49,50,49,51,49,52,49,53,49,54,49,55,49,56,49,57,50,48,50,49,50,50,50,51,50,52,50,53,50,54,50,55,50,56,50,57,51,48,51,49,51,50,51,51,51,52,51,53,51,54,51,55,51,56,51,57,52,48,52,49,52,50,52,51,52,52,52,53,52,54,52,55,52,56,52,57,53,48,53,49,53,50,53,51,53,52,53,53,53,54,53,55,53,56,53,57,54,48,54,49,54,50,54,51,54,52,54,53,54,54,54,55,54,56,54,57,55,48,55,49,55,50,55,51,55,52,55,53,55,54,55,55,55,56,55,57,56,48,56,49,56,50,56,51,56,52,56,53,56,54,56,55,56,56,56,57,57,48,57,49,57,50,57,51,57,52,57,53,57,54,57,55,57,56,57,57]⟩:ByteArray)=S
  have hS:S=⟨((List.range 100).flatMap λi=>[zDq (i / 10),zDq (i % 10)]).toArray⟩:=by rw[<- hs];rfl
  have hlen:((List.range 100).flatMap λi=>[zDq (i / 10),zDq (i % 10)]).length=200:=by decide
  have:slT (str ((List.range 100).flatMap λi=>[zDq (i / 10),zDq (i % 10)])) (some (.int .i64 (n*2:Nat))) (some (.int .i64 (n*2+2:Nat)))=some (str (zSR n)):=by
   rw[zQ9 (lo:=n*2) (hi:=n*2+2) (by omega) (by omega) (by simp[bnd];omega) (by rw[hlen];simp[bnd];omega)]
   congr 1
   have key:∀ m,m<100->((((List.range 100).flatMap λi=>[zDq (i / 10),zDq (i % 10)]).take (m*2+2)).drop (m*2))=[zDq (m / 10),zDq (m % 10)]:=by decide
   rw[key n hn]
   unfold zSR;rw[if_neg hn']
  rw[hS,this,zAa]
  exact⟨by trivial,by trivial⟩
structure Ver where
 p:List Int
 pre:List UInt8
structure Item where
 name:List UInt8
 ver:Ver
 sum:List UInt8
def zEt (v:Ver):List Value:=zCe .i64 v.p++[str v.pre]
def zAhK (x:Item):List Value:=str x.name::(zEt x.ver++zBG x.sum)
structure Ver.wf (v:Ver):Prop where
 p3:v.p.length=3
 pre:v.pre.length<=9223372036854775807
structure Item.wf (x:Item):Prop where
 ver:x.ver.wf
 sum:x.sum.length=32
 name:x.name.length<=9223372036854775807
theorem zDE {v:Ver}(h:v.wf):(zEt v).length=4:=by simp[zEt,h.p3]
theorem zLv {v:Ver}:∀ c∈zEt v,c.oneCell'=true:=by
 intro c hc
 simp only[zEt,zAr,zAI]at hc
 rcases hc with hc|rfl
 ·exact zRd c hc
 ·rfl
theorem zTS {l:List Value}(h:∀ c∈l,c.oneCell'=true):l.toArray.all (·.oneCell')=true:=by
 rw[zBq];intro v hv;exact h v (by simpa using hv)
def zNr (n:Int):Bool:=!(decide (n<0) || decide (n > 999999))
def zAdb (l:List UInt8):Bool:=decide (l.length<=16)&&decide (∀ x∈l,zTp.contains x=true)
def zFU (v:Ver):Bool:=v.p.all zNr&&zAdb v.pre
theorem zO8 {H:zAw}{v:Ver}(hv:v.wf):zAA prg zDw [.agg (zEt v).toArray] H λu H'=>u = .bool (zFU v)/\Keep zAK H H':=by
 apply zKp
 unfold zIF
 obtain⟨p,pre⟩:=v
 obtain⟨hp,hpre⟩:=hv
 simp only at hp hpre
 match p,hp with
 | [a,b,c],_ =>
  simp only[zB7,zBd]
  generalize hH1:H.push (.cells (zEt ⟨[a,b,c],pre⟩).toArray zAQ (0,0))=H1
  have k1:Keep zAK H H1:=by rw[<- hH1];exact Keep.push
  have hq:H1[H.size]? = some (.cells (zEt ⟨[a,b,c],pre⟩).toArray zAQ (0,0)):=by rw[<- hH1];exact zCh
  have hld:ldN 3 H1 (Ptr H.size 0)=some (.agg (zCe .i64 [a,b,c]).toArray):=ldN_mid (A:=[]) (B:=zCe .i64 [a,b,c]) (C:=[str pre]) (by rw[zAX];exact hq) rfl rfl
  have d3:ld1 H1 (Ptr H.size 3)=some (str pre):=zQV hq rfl
  simp only[zBk,zAa,zAh,hld,zBN]
  refine zKl (λu h=>∃ i:Nat,i<=3/\u = .int .i64 (i:Nat)/\([a,b,c].take i).all zNr=true/\H1=h) (λu _=>match u with | .int _ t=>3-t.toNat|_=>0) ⟨0,by omega,rfl,rfl,rfl⟩ ?_
  rintro _ _ ⟨i,hi,rfl,hall,rfl⟩ k hk
  simp only[zAG,zC9,zAa,zAl,decide_eq_true_eq]
  by_cases hlt:(i:Int)<3
  ·rw[if_pos hlt]
   have hlt':i<3:=by omega
   obtain⟨x,hx⟩:∃ x,[a,b,c][i]? = some x:=⟨[a,b,c][i],zAj (by simpa using hlt')⟩
   have hix:ixV 3 false 1 (.agg (zCe .i64 [a,b,c]).toArray) (.int .i64 (i:Nat))=some (.int .i64 x):=by
    simp only[ixV];rw[if_pos ⟨by omega,by omega⟩]
    simpa using zHz (k := .i64) hx
   have hinc:IntKind.i64.wrap ((i:Int)+1)=(i+1:Nat):=by rw[zB8]<;>omega
   have htk:([a,b,c].take (i+1)).all zNr=(zNr x):=by
    rw[zAJ,hx,zCU,hall];simp
   simp only[hix,zAa,zAG,zC9,zAL,zAt,hinc]
   have fin:(if zNr x=true then k (.int .i64 (i+1:Nat)) H1 else (Value.bool false = .bool (zFU ⟨[a,b,c],pre⟩)/\Keep zAK H H1)):=by
    by_cases hox:zNr x=true
    ·rw[if_pos hox]
     exact hk _ _ ⟨i+1,hlt',rfl,by rw[htk,hox],rfl⟩ (by show 3-(i+1)<3-i;omega)
    ·rw[if_neg hox]
     refine⟨?_,k1⟩
     unfold zFU
     have:[a,b,c].all zNr=false:=by
      rw[zCf]
      exact⟨x,zAC hx,hox⟩
     rw[this];rfl
   unfold zNr at fin
   by_cases h1:x<0
   ·simpa [h1] using fin
   ·by_cases h2:x > 999999
    ·simpa [h1,h2] using fin
    ·simpa [h1,h2] using fin
  ·rw[if_neg hlt]
   obtain rfl:i=3:=by omega
   have hall:[a,b,c].all zNr=true:=hall
   simp only[d3,zAa,zEL,zAG,zC9,zAL,decide_eq_true_eq]
   by_cases h16:(pre.length:Int)<=16
   ·have h16':pre.length<=16:=by omega
    simp only[h16,decide_true,if_true]
    refine zAM (zAaP (cs:=zTp) (by decide) (by decide) (by decide) hpre) ?_
    rintro _ h2 ⟨rfl,k2⟩
    have e3:zR1 .eql ⟨(zNq zTp (zMZ zTp pre)).toArray⟩ ⟨#[]⟩=some (.bool (decide (zNq zTp (zMZ zTp pre)=[]))):=zPN (b:=[])
    have e4:decide (zNq zTp (zMZ zTp pre)=[])=decide (∀ y∈pre,zTp.contains y=true):=by rw[decide_eq_decide];exact zXZ
    simp only[zGw,e3,e4,zAa,zAt,if_true]
    refine⟨?_,k1.trans k2⟩
    unfold zFU zAdb
    rw[hall,decide_eq_true h16'];simp
   ·have h16':¬ pre.length<=16:=by omega
    simp only[h16,decide_false,zAb,if_false,zAt,zAa]
    refine⟨?_,k1⟩
    unfold zFU zAdb
    rw[decide_eq_false h16'];simp
def Items (P:zAY)(H:zAw)(v:Value)(xs:List Item):Prop:=SlE 37 P H v (xs.map zAhK)/\∀ x∈xs,x.wf
theorem Items.keep {P S:zAY}{H H':zAw}{v:Value}{xs:List Item}(h:Items P H v xs)(k:Keep S H H')(hs:∀ b,P b->¬ S b):Items P H' v xs:=⟨h.1.keep k hs,h.2⟩
theorem Items.len {P:zAY}{H:zAw}{v:Value}{xs:List Item}(h:Items P H v xs):zDA v=some (.int .i64 xs.length):=by have:=h.1.len;simpa using this
theorem Items.at {P:zAY}{H:zAw}{v:Value}{xs:List Item}(h:Items P H v xs){i:Nat}{x:Item}(hi:xs[i]? = some x):x.wf/\∃ b o,(∀ k,ixS 37 v (.int k i)=some (Ptr b o))/\Pt H b o (zAhK x)/\P b :=
 ⟨h.2 x (zAC hi),h.1.at (by simp[hi])⟩
def zVJ (a b:List UInt8):Bool:=Op.bytesLess a b
theorem zX1 {a b:List UInt8}:zR1 .geq ⟨a.toArray⟩ ⟨b.toArray⟩=some (.bool (!zVJ a b)):=by simp only[zR1,zLL];rfl
def zHS (n:Nat):List UInt8:=if n<10 then [zDq n] else zHS (n / 10)++[zDq (n % 10)]
theorem zY8 {n:Nat}(h:n<100):zSR n=zHS n:=by
 unfold zSR
 rw[zHS]
 split
 ·rfl
 ·rw[zHS,if_pos (by omega)];rfl
theorem zWX {n:Nat}(hn:n<100){H:zAw}:zAA prg zHY [.int .i64 n] H λu H'=>u=str (zHS n)/\Keep zAK H H':=by
 apply zKq
 unfold zLM
 refine zAM (R:=λu H'=>u=str (zHS n)/\Keep zAK H H') ?_ λu h hR=>hR
 apply zGk
 unfold zGa
 refine zAM (R:=λu H'=>u=str (zHS n)/\Keep zAK H H') ?_ λu h hR=>hR
 apply zFb
 unfold zEP
 have e1:((10:Int) == 10)=true:=rfl
 have e2:(0:Int)<=n:=by omega
 have e3:(n:Int)<100:=by omega
 simp only[zAG,zC9,zAa,zAl,e1,if_true,zBN,zAL,e2,e3,decide_true,zAt]
 refine zAM (zAfY hn) ?_
 rintro _ _ ⟨rfl,rfl⟩
 exact⟨by rw[zY8 hn],Keep.refl⟩
def zLw (v:Ver):List UInt8:=if zFU v then zUA [46] (v.p.map λn=>zHS n.toNat)++(if v.pre=[] then [] else 45::v.pre) else []
theorem zAjA {s:ByteArray}:zID prg zBW 1 [(0,.string s)]=some #[.string s]:=by kernel_rfl
theorem zR8 {n:Nat}(h:n<1000000):(zHS n).length<=6:=by
 rw[zHS];split; · simp
 rw[zHS];split; · simp
 rw[zHS];split; · simp
 rw[zHS];split; · simp
 rw[zHS];split; · simp
 rw[zHS];split; · simp
 omega
theorem zNs {n:Int}(h:zNr n=true):0<=n/\n<=999999:=by
 simp only[zNr,zBf,Bool.or_eq_false_iff,decide_eq_false_iff_not]at h;omega
theorem zAfZ {H:zAw}{v:Ver}(hv:v.wf)(hI:∀ n∈v.p,0<=n->n<=999999->∀ h,Keep (H.size <= ·) H h->zAA prg zHY [.int .i64 n] h λu H'=>u=str (zHS n.toNat)/\Keep zAK h H'):zAA prg zFh [.agg (zEt v).toArray] H λu H'=>u=str (zLw v)/\Keep zAK H H':=by
 apply zKR
 unfold zJb
 simp only[zB7,zBd]
 generalize hH1:H.push (.cells (zEt v).toArray zAQ (0,0))=H1
 have k1:Keep zAK H H1:=by rw[<- hH1];exact Keep.push
 have hq1:H1[H.size]? = some (.cells (zEt v).toArray zAQ (0,0)):=by rw[<- hH1];exact zCh
 have hld:ldN 4 H1 (Ptr H.size 0)=some (.agg (zEt v).toArray):=ldN_mid (A:=[]) (B:=zEt v) (C:=[]) (by rw[zAX,zAS];exact hq1) rfl (zDE hv).symm
 simp only[hld,zAa]
 refine zAM (zO8 hv) ?_
 rintro _ H2 ⟨rfl,k2⟩
 have hq2:=k2.at hq1 id
 simp only[zA5,zAa,zAl]
 by_cases hok:zFU v=true
 ·rw[if_neg (by rw[hok];decide)]
  have hparts:∀ n∈v.p,0<=n/\n<=999999:=λn hn=>zNs (zAv.1 (by unfold zFU at hok;simp only[zAm]at hok;exact hok.1) n hn)
  have hpre16:v.pre.length<=16:=by
   unfold zFU zAdb at hok;simp only[zAm,decide_eq_true_eq]at hok;exact hok.2.1
  have hld3:ldN 3 H2 (Ptr H.size 0)=some (.agg (zCe .i64 v.p).toArray):=ldN_mid (A:=[]) (B:=zCe .i64 v.p) (C:=[str v.pre]) (by rw[zAX];exact hq2) rfl (by simp[hv.p3])
  simp only[zBk,zAa,zAh,hld3]
  refine zNd (λu _ h=>BufE 1 (H2.size <= ·) h u (zQA (v.p.map λn=>zHS n.toNat))/\Keep zAK H2 h) (λk hk=>?_) ?_
  ·refine zVE (λu i h=>∃ j:Nat,j<=3/\i = .int .i64 (j:Nat)/\BufE 1 (H2.size <= ·) h u (zQA ((v.p.take j).map λn=>zHS n.toNat))/\Keep (H2.size <= ·) H2 h) (λ_ i _=>match i with | .int _ t=>3-t.toNat|_=>0)
    ⟨0,by omega,rfl,BufE.nil,Keep.refl⟩ ?_
   rintro u _ h ⟨j,hj,rfl,hu,kh⟩ k' hk'
   simp only[zAG,zC9,zAa,zAl,decide_eq_true_eq]
   by_cases hlt:(j:Int)<3
   ·rw[if_pos hlt]
    have hlt':j<v.p.length:=by rw[hv.p3];omega
    have hg:v.p[j]? = some v.p[j]:=zAj hlt'
    have hm:v.p[j]∈v.p:=zAE _
    have hix:ixV 3 false 1 (.agg (zCe .i64 v.p).toArray) (.int .i64 (j:Nat))=some (.int .i64 v.p[j]):=by
     simp only[ixV];rw[if_pos ⟨by omega,by omega⟩]
     simpa using zHz (k := .i64) hg
    have hinc:IntKind.i64.wrap ((j:Int)+1)=(j+1:Nat):=by rw[zB8]<;>omega
    obtain⟨n0,n1⟩:=hparts _ hm
    simp only[hix,zAa,hinc]
    refine zAM (hI _ hm n0 n1 h ((k1.mono λ_ _ h=>h.elim).trans ((k2.mono λ_ _ h=>h.elim).trans (kh.mono λb _ hb=>zBm (zBm k1.1 k2.1) hb)))) ?_
    rintro _ h3 ⟨rfl,k3⟩
    simp only[zAjA,zCD]
    have kp:Keep zAK h3 (h3.push (.cells #[str (zHS v.p[j].toNat)] zBW (0,0))):=Keep.push
    have hx:SlE 1 (· = h3.size) (h3.push (.cells #[str (zHS v.p[j].toNat)] zBW (0,0))) (.slice (some ⟨h3.size,0,none⟩) 1 1) (zQA [zHS v.p[j].toNat]) :=
     ⟨⟨_,1,rfl,zAi _,.inr ⟨h3.size,0,rfl,rfl,by rw[zO5];exact Pt.of zCh⟩⟩,zR7,zQo λv hv=>by simp at hv;subst hv;rfl⟩
    refine((hu.keep k3 λ_ _=>id).keep kp λ_ _=>id).app hx (by omega) (by simp;omega) (by have:=kh.1;have:=k3.1;simp;omega) λx h4 hx4 k4=>?_
    refine hk' _ _ _ ⟨j+1,by omega,rfl,?_,kh.trans ((k3.mono λ_ _ h=>h.elim).trans ((kp.mono λ_ _ h=>h.elim).trans k4))⟩ (by show 3-(j+1)<3-j;omega)
    have:zQA ((v.p.take (j+1)).map λn=>zHS n.toNat)=zQA ((v.p.take j).map λn=>zHS n.toNat)++zQA [zHS v.p[j].toNat]:=by
     rw[show v.p.take (j+1)=v.p.take j++[v.p[j]] by rw[zAJ,hg];rfl,zAN];simp[zQA,zHn]
    rw[this];exact hx4
   ·rw[if_neg hlt]
    obtain rfl:j=3:=by omega
    rw[zAs (by rw[hv.p3];omega)]at hu
    exact hk _ _ _ ⟨hu,kh.1,λi hi _=>kh.2 i hi (by omega)⟩
  ·rintro u _ h3 ⟨hu,k3⟩
   have hsl:=hu.sl
   have htot:total (v.p.map λn=>zHS n.toNat)<=18:=by
    obtain⟨p,pre⟩:=v
    have hp3:=hv.p3
    simp only at hp3 hparts ⊢
    match p,hp3 with
    | [a,b,c],_ =>
     have l1:=zR8 (n:=a.toNat) (by have:=hparts a (by simp);omega)
     have l2:=zR8 (n:=b.toNat) (by have:=hparts b (by simp);omega)
     have l3:=zR8 (n:=c.toNat) (by have:=hparts c (by simp);omega)
     simp[total];omega
   refine zAM (zAhJ (P:=λb=>H2.size<=b/\b<h3.size) (sep:=[46]) (l:=v.p.map λn=>zHS n.toNat) ?_ (λb hb=>hb.2) (by simp[hv.p3]) (by simp) (by omega)) ?_
   ·refine⟨?_,hsl.el,hsl.one⟩
    obtain⟨a,c,hve,hc,hx⟩:=hsl.ex
    exact⟨a,c,hve,hc,hx.imp id λ⟨b,o,e,hb,hpt⟩=>⟨b,o,e,⟨hb,hpt.lt⟩,hpt⟩⟩
   rintro _ h4 ⟨rfl,k4⟩
   have hq4:=k4.at (k3.at hq2 id) id
   have d3:ld1 h4 (Ptr H.size 3)=some (str v.pre):=zQV hq4 (by
    unfold zEt
    rw[zA6 (by simp[hv.p3])]
    simp[hv.p3])
   have kk:=k1.trans (k2.trans (k3.trans k4))
   have ene:zR1 .neq ⟨v.pre.toArray⟩ ⟨#[]⟩=some (.bool (!decide (v.pre=[]))):=zWN (b:=[])
   have hjl:(zUA [46] (v.p.map λn=>zHS n.toNat)).length<=100:=by
    have h3l:(v.p.map λn=>zHS n.toNat).length=3:=by simp[hv.p3]
    generalize (v.p.map λn=>zHS n.toNat)=L at *
    match L,h3l with
    | [a,b,c],_=>simp[zUA,total]at *;omega
   simp only[d3,zAa,zGw,ene,zBN,zAl]
   by_cases hpe:v.pre=[]
   ·rw[if_neg (by simp[hpe])]
    refine⟨?_,kk⟩
    unfold zLw
    rw[hok,hpe];simp
   ·rw[if_pos (by simp[hpe])]
    have ea:zR1 .add ⟨#[45]⟩ ⟨v.pre.toArray⟩=some (str ([45]++v.pre)):=zUu (a:=[45]) (by simp;omega)
    rw[ea,zAa]
    have ea2:zAB .no .add (str (zUA [46] (v.p.map λn=>zHS n.toNat))) (str ([45]++v.pre))=some (str (zUA [46] (v.p.map λn=>zHS n.toNat)++([45]++v.pre))):=by
     rw[zGw];exact zUu (by simp;omega)
    rw[ea2,zAa]
    refine⟨?_,kk⟩
    unfold zLw
    rw[hok];simp[hpe]
 ·rw[if_pos (by rw[eq_false_of_ne_true hok];rfl)]
  refine⟨?_,k1.trans k2⟩
  unfold zLw
  rw[if_neg hok]
theorem zO9 {n:Int}(h1:0<=n)(h2:n<4294967296):IntKind.u32.wrap n=n:=by
 simp only[IntKind.wrap,IntKind.bits,IntKind.signed];simp;omega
theorem zX2 {n:Int}(h1:0<=n)(h2:n<18446744073709551616):IntKind.u64.wrap n=n:=by
 simp only[IntKind.wrap,IntKind.bits,IntKind.signed];simp;omega
theorem zAhL {x:Nat}:zAB .no .rem (.int .u32 (x:Nat)) (.int .u32 100)=some (.int .u32 ((x % 100:Nat):Int)):=by
 rw[zAG];simp only[zC9];rw[if_neg (by decide),Int.tmod_eq_emod_of_nonneg (by omega)];rfl
theorem zAjB {x:Nat}:zAB .no .rem (.int .u32 (x:Nat)) (.int .u32 10000)=some (.int .u32 ((x % 10000:Nat):Int)):=by
 rw[zAG];simp only[zC9];rw[if_neg (by decide),Int.tmod_eq_emod_of_nonneg (by omega)];rfl
theorem zAhM {x:Nat}(h:x<4294967296):zAB .no .quo (.int .u32 (x:Nat)) (.int .u32 100)=some (.int .u32 ((x / 100:Nat):Int)):=by
 rw[zAG];simp only[zC9];rw[if_neg (by decide),zCF (by omega),zO9 (by omega) (by omega)];rfl
theorem zAjC {x:Nat}(h:x<4294967296):zAB .no .quo (.int .u32 (x:Nat)) (.int .u32 10000)=some (.int .u32 ((x / 10000:Nat):Int)):=by
 rw[zAG];simp only[zC9];rw[if_neg (by decide),zCF (by omega),zO9 (by omega) (by omega)];rfl
theorem m2 {x:Nat}(h:x<1000000):zAB .no .mul (.int .u32 (x:Nat)) (.int .u32 2)=some (.int .u32 ((x*2:Nat):Int)):=by
 rw[zAG];simp only[zC9];rw[zO9 (by omega) (by omega)];rfl
theorem p1 {x:Nat}(h:x<1000000):zAB .no .add (.int .u32 (x:Nat)) (.int .u32 1)=some (.int .u32 ((x+1:Nat):Int)):=by
 rw[zAG];simp only[zC9];rw[zO9 (by omega) (by omega)];rfl
def zJH:Nat->Nat->List UInt8
 | 0,_=>[]
 | n+1,u=>zJH n (u / 10)++[zDq (u % 10)]
theorem zX3:∀ (n u:Nat),10 ^ n<=u->u<10 ^ (n+1)->zHS u=zJH (n+1) u
 | 0,u,h1,h2=>by rw[zHS,if_pos (by omega)];simp[zJH,Nat.mod_eq_of_lt (show u<10 by omega)]
 | n+1,u,h1,h2=>by
  have e:10 ^ (n+1)=10 ^ n*10:=Nat.pow_succ ..
  have e2:10 ^ (n+1+1)=10 ^ (n+1)*10:=Nat.pow_succ ..
  have hp:0<10 ^ n:=Nat.pos_of_ne_zero (by simp)
  rw[zHS,if_neg (by omega),zX3 n (u / 10) (by omega) (by omega)]
  rfl
def SMl:List UInt8:=(List.range 100).flatMap λi=>[zDq (i / 10),zDq (i % 10)]
def SM:ByteArray:=⟨#[48,48,48,49,48,50,48,51,48,52,48,53,48,54,48,55,48,56,48,57,49,48,49,49,49,50,49,51,49,52,49,53,49,54,49,55,49,56,49,57,50,48,50,49,50,50,50,51,50,52,50,53,50,54,50,55,50,56,50,57,51,48,51,49,51,50,51,51,51,52,51,53,51,54,51,55,51,56,51,57,52,48,52,49,52,50,52,51,52,52,52,53,52,54,52,55,52,56,52,57,53,48,53,49,53,50,53,51,53,52,53,53,53,54,53,55,53,56,53,57,54,48,54,49,54,50,54,51,54,52,54,53,54,54,54,55,54,56,54,57,55,48,55,49,55,50,55,51,55,52,55,53,55,54,55,55,55,56,55,57,56,48,56,49,56,50,56,51,56,52,56,53,56,54,56,55,56,56,56,57,57,48,57,49,57,50,57,51,57,52,57,53,57,54,57,55,57,56,57,57]⟩
theorem zAhN:SM=⟨SMl.toArray⟩:=rfl
theorem zAeA:∀ m,m<100->SMl[m*2]? = some (zDq (m / 10))/\SMl[m*2+1]? = some (zDq (m % 10)):=by decide
theorem sm0 {m:Nat}(h:m<100):ixT (.string SM) (.int .u32 ((m*2:Nat):Int))=some (.int .u8 (zDq (m / 10)).toNat):=by rw[zAhN];exact zMO (zAeA m h).1
theorem sm1 {m:Nat}(h:m<100):ixT (.string SM) (.int .u32 ((m*2+1:Nat):Int))=some (.int .u8 (zDq (m % 10)).toNat):=by rw[zAhN];exact zMO (zAeA m h).2
theorem zAaS {n:Nat}(h:n<10):(zDq n).toNat=48+n:=by
 unfold zDq;rw[UInt8.toNat_ofNat'];omega
theorem zJI {b o n c:Nat}{k:IntKind}{i:Nat}(h:i<n):ixS 1 (.slice (some ⟨b,o,none⟩) n c) (.int k i)=some (Ptr b (o+i)):=by
 simp only[ixS];rw[if_pos ⟨by omega,by omega⟩];simp
theorem zJn {H:zAw}{b i:Nat}{cs:List Value}{T:TypeId}(h:H[b]? = some (.cells cs.toArray T (0,0)))(d:UInt8)(hi:i<cs.length):st1 H (Ptr b i) (.int .u8 d.toNat)=some (H.setIfInBounds b (.cells (cs.set i (.int .u8 d.toNat)).toArray T (0,0))):=zWu h hi rfl
theorem zTT {x:Nat}(h:x<10):IntKind.u8.wrap (IntKind.u32.wrap (48+(x:Int)))=(zDq x).toNat:=by
 rw[zO9 (by omega) (by omega),zAaD (by omega) (by omega),zAaS h];omega
theorem zY9 {H:zAw}{q nd u:Nat}{cs:List Value}{T:TypeId}(hq:H[q]? = some (.cells cs.toArray T (0,0)))(hl:cs.length=24)(h3:3<=nd)(h6:nd<=6)(hu:u<10 ^ nd) :
  zAA prg zEq [.slice (some ⟨q,1,none⟩) nd 23,.int .u64 (u:Nat)] H λ_ H'=>∃ cs':List Value,H'[q]? = some (.cells cs'.toArray T (0,0))/\cs'.length=24/\(cs'.drop 1).take nd=zBG (zJH nd u)/\Keep (· = q) H H':=by
 apply zHw
 unfold zFQ
 have hum:u<1000000:=zAW hu (zB3 (by omega) h6)
 refine zAa.2 ?_
 refine zNd (λx n h=>x = .int .u64 (u:Nat)/\n = .int .i64 (nd:Nat)/\H=h) (λk hk=>?_) ?_
 ·refine zVE (λx n h=>x = .int .u64 (u:Nat)/\n = .int .i64 (nd:Nat)/\H=h) (λ_ _ _=>0) ⟨rfl,rfl,rfl⟩ ?_
  rintro _ _ _ ⟨rfl,rfl,rfl⟩ k' _
  simp only[zAG (op := .geq),zC9,zAa,zAl,decide_eq_true_eq]
  rw[if_neg (by omega)]
  exact hk _ _ _ ⟨rfl,rfl,rfl⟩
 rintro _ _ _ ⟨rfl,rfl,rfl⟩
 have hcv:IntKind.u32.wrap (u:Int)=(u:Nat):=zO9 (by omega) (by omega)
 simp only[zF9,hcv,zAa]
 change J2 (λk13=>_) _
 match cs,hl with
 | [c0,c1,c2,c3,c4,c5,c6,c7,c8,c9,c10,c11,c12,c13,c14,c15,c16,c17,c18,c19,c20,c21,c22,c23],_ =>
 have hs:nd=3\/nd=4\/nd=5\/nd=6:=by omega
 have w:∀ a b:Nat,b<=a->a<=100->IntKind.i64.wrap ((a:Int)-(b:Int))=((a-b:Nat):Int):=λa b h1 h2=>by rw[zB8]<;>omega
 rcases hs with rfl|rfl|rfl|rfl
 ·refine zNd (λn x h=>n = .int .i64 (3:Nat)/\x = .int .u32 (u:Nat)/\H=h) (λk hk=>?_) ?_
  ·simp only[zAG (op := .geq),zC9,zAa,zAl,decide_eq_true_eq]
   rw[if_neg (by omega)]
   exact hk _ _ _ ⟨rfl,rfl,rfl⟩
  rintro _ _ _ ⟨rfl,rfl,rfl⟩
  refine zNd (λn x h=>n = .int .i64 (1:Nat)/\x = .int .u32 ((u / 100:Nat):Int)/\h[q]? = some (.cells [c0,c1,.int .u8 (zDq (u % 100 / 10)).toNat,.int .u8 (zDq (u % 100 % 10)).toNat,c4,c5,c6,c7,c8,c9,c10,c11,c12,c13,c14,c15,c16,c17,c18,c19,c20,c21,c22,c23].toArray T (0,0))/\Keep (· = q) H h) (λk hk=>?_) ?_
  ·simp only[zAG (op := .geq),zC9,zAa,zAl,decide_eq_true_eq]
   rw[if_pos (by omega)]
   simp only[zAhL,zAa,m2 (show u % 100<1000000 by omega),zAhM (show u<4294967296 by omega),p1 (show u % 100*2<1000000 by omega)]
   have e1:zAB .no .sub (.int .i64 (3:Nat)) (.int .i64 1)=some (.int .i64 (2:Nat)):=rfl
   have e2:zAB .no .sub (.int .i64 (3:Nat)) (.int .i64 2)=some (.int .i64 (1:Nat)):=rfl
   rw[e1,zAa,e2,zAa]
   have s1:=sm1 (m:=u % 100) (by omega)
   have s0:=sm0 (m:=u % 100) (by omega)
   unfold SM at s1 s0
   rw[s1,zAa,s0,zAa,zJI (by omega),zAa,zJn hq _ (by simp),zA0,zJI (by omega),zAa,zJn (zBh hq) _ (by simp),zA0,zAa]
   refine hk _ _ _ ⟨rfl,rfl,?_,(Keep.set (S:=(· = q)) rfl).trans (Keep.set rfl)⟩
   rw[zBh (zBh hq)];rfl
  rintro _ _ h ⟨rfl,rfl,hq2,k2⟩
  simp only[zAG (op := .gtr),zC9,zAa,zAl,decide_eq_true_eq]
  rw[if_pos (by omega)]
  have hlt:u / 100<10:=by omega
  simp only[zAG (op := .add),zC9,zAa,zF9,zTT hlt]
  have ei:ixS 1 (.slice (some ⟨q,1,none⟩) 3 23) (.int .i64 0)=some (Ptr q 1):=rfl
  rw[ei,zAa,zJn hq2 _ (by simp),zA0]
  refine⟨_,zBh hq2,rfl,?_,k2.trans (Keep.set rfl)⟩
  have p:zJH 3 u=[zDq (u / 10 / 10 % 10),zDq (u / 10 % 10),zDq (u % 10)]:=rfl
  rw[p,show u / 10 / 10 % 10=u / 100 by omega,show u / 10 % 10=u % 100 / 10 by omega,show u % 10=u % 100 % 10 by omega]
  rfl
 ·refine zNd (λn x h=>n = .int .i64 (0:Nat)/\x = .int .u32 ((u / 10000:Nat):Int)/\h[q]? = some (.cells [c0,.int .u8 (zDq (u % 10000 / 100 / 10)).toNat,.int .u8 (zDq (u % 10000 / 100 % 10)).toNat,.int .u8 (zDq (u % 10000 % 100 / 10)).toNat,.int .u8 (zDq (u % 10000 % 100 % 10)).toNat,c5,c6,c7,c8,c9,c10,c11,c12,c13,c14,c15,c16,c17,c18,c19,c20,c21,c22,c23].toArray T (0,0))/\Keep (· = q) H h) (λk hk=>?_) ?_
  ·simp only[zAG (op := .geq),zC9,zAa,zAl,decide_eq_true_eq]
   rw[if_pos (by omega)]
   simp only[zAjB,zAjC (show u<4294967296 by omega),zAhM (show u % 10000<4294967296 by omega),zAhL,m2 (show u % 10000 / 100<1000000 by omega),m2 (show u % 10000 % 100<1000000 by omega),zAa,p1 (show u % 10000 % 100*2<1000000 by omega),p1 (show u % 10000 / 100*2<1000000 by omega)]
   have e1:zAB .no .sub (.int .i64 (4:Nat)) (.int .i64 1)=some (.int .i64 (3:Nat)):=rfl
   have e2:zAB .no .sub (.int .i64 (4:Nat)) (.int .i64 2)=some (.int .i64 (2:Nat)):=rfl
   rw[e1,zAa,e2,zAa]
   have s1:=sm1 (m:=u % 10000 % 100) (by omega)
   have s0:=sm0 (m:=u % 10000 % 100) (by omega)
   have s3:=sm1 (m:=u % 10000 / 100) (by omega)
   have s2:=sm0 (m:=u % 10000 / 100) (by omega)
   unfold SM at s1 s0 s3 s2
   rw[s1,zAa,s0,zAa,zJI (by omega),zAa,zJn hq _ (by simp),zA0,zJI (by omega),zAa,zJn (zBh hq) _ (by simp),zA0]
   have e3:zAB .no .sub (.int .i64 (4:Nat)) (.int .i64 3)=some (.int .i64 (1:Nat)):=rfl
   have e4:zAB .no .sub (.int .i64 (4:Nat)) (.int .i64 4)=some (.int .i64 (0:Nat)):=rfl
   rw[e3,zAa,e4,zAa]
   rw[s3,zAa,s2,zAa,zJI (by omega),zAa,zJn (zBh (zBh hq)) _ (by simp),zA0,zJI (by omega),zAa,zJn (zBh (zBh (zBh hq))) _ (by simp),zA0,zAa]
   refine hk _ _ _ ⟨rfl,rfl,?_,(((Keep.set (S:=(· = q)) rfl).trans (Keep.set rfl)).trans (Keep.set rfl)).trans (Keep.set rfl)⟩
   rw[zBh (zBh (zBh (zBh hq)))];rfl
  rintro _ _ h ⟨rfl,rfl,hq2,k2⟩
  refine zNd (λn _ h'=>n = .int .i64 (0:Nat)/\h=h') (λk hk=>?_) ?_
  ·simp only[zAG (op := .geq),zC9,zAa,zAl,decide_eq_true_eq]
   rw[if_neg (by omega)]
   exact hk _ _ _ ⟨rfl,rfl⟩
  rintro _ _ _ ⟨rfl,rfl⟩
  simp only[zAG (op := .gtr),zC9,zAa,zAl,decide_eq_true_eq]
  rw[if_neg (by omega)]
  refine⟨_,hq2,rfl,?_,k2⟩
  have p:zJH 4 u=[zDq (u / 10 / 10 / 10 % 10),zDq (u / 10 / 10 % 10),zDq (u / 10 % 10),zDq (u % 10)]:=rfl
  rw[p,show u / 10 / 10 / 10 % 10=u % 10000 / 100 / 10 by omega,show u / 10 / 10 % 10=u % 10000 / 100 % 10 by omega,show u / 10 % 10=u % 10000 % 100 / 10 by omega,show u % 10=u % 10000 % 100 % 10 by omega]
  rfl
 ·refine zNd (λn x h=>n = .int .i64 (1:Nat)/\x = .int .u32 ((u / 10000:Nat):Int)/\h[q]? = some (.cells [c0,c1,.int .u8 (zDq (u % 10000 / 100 / 10)).toNat,.int .u8 (zDq (u % 10000 / 100 % 10)).toNat,.int .u8 (zDq (u % 10000 % 100 / 10)).toNat,.int .u8 (zDq (u % 10000 % 100 % 10)).toNat,c6,c7,c8,c9,c10,c11,c12,c13,c14,c15,c16,c17,c18,c19,c20,c21,c22,c23].toArray T (0,0))/\Keep (· = q) H h) (λk hk=>?_) ?_
  ·simp only[zAG (op := .geq),zC9,zAa,zAl,decide_eq_true_eq]
   rw[if_pos (by omega)]
   simp only[zAjB,zAjC (show u<4294967296 by omega),zAhM (show u % 10000<4294967296 by omega),zAhL,m2 (show u % 10000 / 100<1000000 by omega),m2 (show u % 10000 % 100<1000000 by omega),zAa,p1 (show u % 10000 % 100*2<1000000 by omega),p1 (show u % 10000 / 100*2<1000000 by omega)]
   have e1:zAB .no .sub (.int .i64 (5:Nat)) (.int .i64 1)=some (.int .i64 (4:Nat)):=rfl
   have e2:zAB .no .sub (.int .i64 (5:Nat)) (.int .i64 2)=some (.int .i64 (3:Nat)):=rfl
   rw[e1,zAa,e2,zAa]
   have s1:=sm1 (m:=u % 10000 % 100) (by omega)
   have s0:=sm0 (m:=u % 10000 % 100) (by omega)
   have s3:=sm1 (m:=u % 10000 / 100) (by omega)
   have s2:=sm0 (m:=u % 10000 / 100) (by omega)
   unfold SM at s1 s0 s3 s2
   rw[s1,zAa,s0,zAa,zJI (by omega),zAa,zJn hq _ (by simp),zA0,zJI (by omega),zAa,zJn (zBh hq) _ (by simp),zA0]
   have e3:zAB .no .sub (.int .i64 (5:Nat)) (.int .i64 3)=some (.int .i64 (2:Nat)):=rfl
   have e4:zAB .no .sub (.int .i64 (5:Nat)) (.int .i64 4)=some (.int .i64 (1:Nat)):=rfl
   rw[e3,zAa,e4,zAa]
   rw[s3,zAa,s2,zAa,zJI (by omega),zAa,zJn (zBh (zBh hq)) _ (by simp),zA0,zJI (by omega),zAa,zJn (zBh (zBh (zBh hq))) _ (by simp),zA0,zAa]
   refine hk _ _ _ ⟨rfl,rfl,?_,(((Keep.set (S:=(· = q)) rfl).trans (Keep.set rfl)).trans (Keep.set rfl)).trans (Keep.set rfl)⟩
   rw[zBh (zBh (zBh (zBh hq)))];rfl
  rintro _ _ h ⟨rfl,rfl,hq2,k2⟩
  refine zNd (λn x h'=>n = .int .i64 (1:Nat)/\x = .int .u32 ((u / 10000:Nat):Int)/\h=h') (λk hk=>?_) ?_
  ·simp only[zAG (op := .geq),zC9,zAa,zAl,decide_eq_true_eq]
   rw[if_neg (by omega)]
   exact hk _ _ _ ⟨rfl,rfl,rfl⟩
  rintro _ _ _ ⟨rfl,rfl,rfl⟩
  simp only[zAG (op := .gtr),zC9,zAa,zAl,decide_eq_true_eq]
  rw[if_pos (by omega)]
  have hlt:u / 10000<10:=by omega
  simp only[zAG (op := .add),zC9,zAa,zF9,zTT hlt]
  have ei:ixS 1 (.slice (some ⟨q,1,none⟩) 5 23) (.int .i64 0)=some (Ptr q 1):=rfl
  rw[ei,zAa,zJn hq2 _ (by simp),zA0]
  refine⟨_,zBh hq2,rfl,?_,k2.trans (Keep.set rfl)⟩
  have p:zJH 5 u=[zDq (u / 10 / 10 / 10 / 10 % 10),zDq (u / 10 / 10 / 10 % 10),zDq (u / 10 / 10 % 10),zDq (u / 10 % 10),zDq (u % 10)]:=rfl
  rw[p,show u / 10 / 10 / 10 / 10 % 10=u / 10000 by omega,show u / 10 / 10 / 10 % 10=u % 10000 / 100 / 10 by omega,show u / 10 / 10 % 10=u % 10000 / 100 % 10 by omega,show u / 10 % 10=u % 10000 % 100 / 10 by omega,show u % 10=u % 10000 % 100 % 10 by omega]
  rfl
 ·refine zNd (λn x h=>n = .int .i64 (2:Nat)/\x = .int .u32 ((u / 10000:Nat):Int)/\h[q]? = some (.cells [c0,c1,c2,.int .u8 (zDq (u % 10000 / 100 / 10)).toNat,.int .u8 (zDq (u % 10000 / 100 % 10)).toNat,.int .u8 (zDq (u % 10000 % 100 / 10)).toNat,.int .u8 (zDq (u % 10000 % 100 % 10)).toNat,c7,c8,c9,c10,c11,c12,c13,c14,c15,c16,c17,c18,c19,c20,c21,c22,c23].toArray T (0,0))/\Keep (· = q) H h) (λk hk=>?_) ?_
  ·simp only[zAG (op := .geq),zC9,zAa,zAl,decide_eq_true_eq]
   rw[if_pos (by omega)]
   simp only[zAjB,zAjC (show u<4294967296 by omega),zAhM (show u % 10000<4294967296 by omega),zAhL,m2 (show u % 10000 / 100<1000000 by omega),m2 (show u % 10000 % 100<1000000 by omega),zAa,p1 (show u % 10000 % 100*2<1000000 by omega),p1 (show u % 10000 / 100*2<1000000 by omega)]
   have e1:zAB .no .sub (.int .i64 (6:Nat)) (.int .i64 1)=some (.int .i64 (5:Nat)):=rfl
   have e2:zAB .no .sub (.int .i64 (6:Nat)) (.int .i64 2)=some (.int .i64 (4:Nat)):=rfl
   rw[e1,zAa,e2,zAa]
   have s1:=sm1 (m:=u % 10000 % 100) (by omega)
   have s0:=sm0 (m:=u % 10000 % 100) (by omega)
   have s3:=sm1 (m:=u % 10000 / 100) (by omega)
   have s2:=sm0 (m:=u % 10000 / 100) (by omega)
   unfold SM at s1 s0 s3 s2
   rw[s1,zAa,s0,zAa,zJI (by omega),zAa,zJn hq _ (by simp),zA0,zJI (by omega),zAa,zJn (zBh hq) _ (by simp),zA0]
   have e3:zAB .no .sub (.int .i64 (6:Nat)) (.int .i64 3)=some (.int .i64 (3:Nat)):=rfl
   have e4:zAB .no .sub (.int .i64 (6:Nat)) (.int .i64 4)=some (.int .i64 (2:Nat)):=rfl
   rw[e3,zAa,e4,zAa]
   rw[s3,zAa,s2,zAa,zJI (by omega),zAa,zJn (zBh (zBh hq)) _ (by simp),zA0,zJI (by omega),zAa,zJn (zBh (zBh (zBh hq))) _ (by simp),zA0,zAa]
   refine hk _ _ _ ⟨rfl,rfl,?_,(((Keep.set (S:=(· = q)) rfl).trans (Keep.set rfl)).trans (Keep.set rfl)).trans (Keep.set rfl)⟩
   rw[zBh (zBh (zBh (zBh hq)))];rfl
  rintro _ _ h ⟨rfl,rfl,hq2,k2⟩
  refine zNd (λn _ h'=>n = .int .i64 (0:Nat)/\h'[q]? = some (.cells [c0,.int .u8 (zDq (u / 10000 % 100 / 10)).toNat,.int .u8 (zDq (u / 10000 % 100 % 10)).toNat,.int .u8 (zDq (u % 10000 / 100 / 10)).toNat,.int .u8 (zDq (u % 10000 / 100 % 10)).toNat,.int .u8 (zDq (u % 10000 % 100 / 10)).toNat,.int .u8 (zDq (u % 10000 % 100 % 10)).toNat,c7,c8,c9,c10,c11,c12,c13,c14,c15,c16,c17,c18,c19,c20,c21,c22,c23].toArray T (0,0))/\Keep (· = q) h h') (λk hk=>?_) ?_
  ·simp only[zAG (op := .geq),zC9,zAa,zAl,decide_eq_true_eq]
   rw[if_pos (by omega)]
   simp only[zAhL,zAa,m2 (show u / 10000 % 100<1000000 by omega),zAhM (show u / 10000<4294967296 by omega),p1 (show u / 10000 % 100*2<1000000 by omega)]
   have e1:zAB .no .sub (.int .i64 (2:Nat)) (.int .i64 1)=some (.int .i64 (1:Nat)):=rfl
   have e2:zAB .no .sub (.int .i64 (2:Nat)) (.int .i64 2)=some (.int .i64 (0:Nat)):=rfl
   rw[e1,zAa,e2,zAa]
   have s1:=sm1 (m:=u / 10000 % 100) (by omega)
   have s0:=sm0 (m:=u / 10000 % 100) (by omega)
   unfold SM at s1 s0
   rw[s1,zAa,s0,zAa,zJI (by omega),zAa,zJn hq2 _ (by simp),zA0,zJI (by omega),zAa,zJn (zBh hq2) _ (by simp),zA0,zAa]
   refine hk _ _ _ ⟨rfl,?_,(Keep.set (S:=(· = q)) rfl).trans (Keep.set rfl)⟩
   rw[zBh (zBh hq2)];rfl
  rintro _ _ h' ⟨rfl,hq3,k3⟩
  simp only[zAG (op := .gtr),zC9,zAa,zAl,decide_eq_true_eq]
  rw[if_neg (by omega)]
  refine⟨_,hq3,rfl,?_,k2.trans k3⟩
  have p:zJH 6 u=[zDq (u / 10 / 10 / 10 / 10 / 10 % 10),zDq (u / 10 / 10 / 10 / 10 % 10),zDq (u / 10 / 10 / 10 % 10),zDq (u / 10 / 10 % 10),zDq (u / 10 % 10),zDq (u % 10)]:=rfl
  rw[p,show u / 10 / 10 / 10 / 10 / 10 % 10=u / 10000 % 100 / 10 by omega,show u / 10 / 10 / 10 / 10 % 10=u / 10000 % 100 % 10 by omega,show u / 10 / 10 / 10 % 10=u % 10000 / 100 / 10 by omega,show u / 10 / 10 % 10=u % 10000 / 100 % 10 by omega,show u / 10 % 10=u % 10000 % 100 / 10 by omega,show u % 10=u % 10000 % 100 % 10 by omega]
  rfl
def zAeB:List Int:=[1,10,100,1000,10000,100000,1000000,10000000,100000000,1000000000,10000000000,100000000000,1000000000000,10000000000000,100000000000000,1000000000000000,10000000000000000,100000000000000000,1000000000000000000,10000000000000000000]
theorem zAaT:∀ q,q<20->zAeB[q]? = some ((10 ^ q:Nat):Int):=by decide
structure zAdc (H:zAw):Prop where
 tab:zAcq H zDD .u64 zAeB
 sz:NG<=H.size
theorem zAdc.keep {S:zAY}{H H':zAw}(h:zAdc H)(k:Keep S H H')(hs:∀ b,S b->NG<=b):zAdc H' :=
 ⟨h.tab.keep k λh=>absurd (hs _ h) (by decide),zBm h.sz k.1⟩
theorem zWY {k:IntKind}{u b:Nat}(h:b<=k.bits):zUw k (u:Nat) (b:Nat)=((u / 2 ^ b:Nat):Int):=by
 unfold zUw
 rw[zC2,zBD h,Int.fdiv_eq_ediv_of_nonneg _ (by exact Int.le_of_lt (Int.pow_pos (by decide)))]
 norm_cast
def zVK (x:Nat):Nat:=if x=0 then 0 else Nat.log2 x+1
theorem zWZ {x:Nat}(h:x<256):zVK x<=8:=by
 unfold zVK;split
 ·omega
 ·have:=(Nat.log2_lt (n:=x) (k:=8) ‹_›).2 h;omega
theorem zSS {x:Nat}(h:0<x):0<zVK x/\2 ^ (zVK x-1)<=x/\x<2 ^ zVK x:=by
 unfold zVK;rw[if_neg (by omega)]
 exact⟨by omega,Nat.log2_self_le (by omega),Nat.lt_log2_self⟩
def L8l:List UInt8:=(List.range 256).map λx=>UInt8.ofNat (zVK x)
def L8:ByteArray:=⟨#[0,1,2,2,3,3,3,3,4,4,4,4,4,4,4,4,5,5,5,5,5,5,5,5,5,5,5,5,5,5,5,5,6,6,6,6,6,6,6,6,6,6,6,6,6,6,6,6,6,6,6,6,6,6,6,6,6,6,6,6,6,6,6,6,7,7,7,7,7,7,7,7,7,7,7,7,7,7,7,7,7,7,7,7,7,7,7,7,7,7,7,7,7,7,7,7,7,7,7,7,7,7,7,7,7,7,7,7,7,7,7,7,7,7,7,7,7,7,7,7,7,7,7,7,7,7,7,7,8,8,8,8,8,8,8,8,8,8,8,8,8,8,8,8,8,8,8,8,8,8,8,8,8,8,8,8,8,8,8,8,8,8,8,8,8,8,8,8,8,8,8,8,8,8,8,8,8,8,8,8,8,8,8,8,8,8,8,8,8,8,8,8,8,8,8,8,8,8,8,8,8,8,8,8,8,8,8,8,8,8,8,8,8,8,8,8,8,8,8,8,8,8,8,8,8,8,8,8,8,8,8,8,8,8,8,8,8,8,8,8,8,8,8,8,8,8,8,8,8,8,8,8,8,8,8,8]⟩
theorem zAjD:L8=⟨L8l.toArray⟩:=by kernel_rfl
theorem zAhO {x:Nat}(h:x<256):ixT (.string L8) (.int .u8 (x:Nat))=some (.int .u8 (zVK x:Nat)):=by
 rw[zAjD,zMO (l:=L8l) (x:=UInt8.ofNat (zVK x)) (by simp[L8l,h])]
 rw[UInt8.toNat_ofNat',Nat.mod_eq_of_lt (by have:=zWZ h;omega)]
theorem zQC {x off:Nat}{H:zAw}{R:zAn}(hx:x<256)(ho:off<=100)(h:R (.int .i64 ((off+zVK x:Nat):Int)) H) :
  Mpu (cvI .u8 (.int .u64 (x:Nat))) λt21=>Mpu (ixT (.string L8) t21) λt22=>Mpu (cvI .i64 t22) λt23=>Mpu (zAB .no .add (.int .i64 (off:Nat)) t23) λt24=>R t24 H:=by
 have:=zWZ hx
 simp only[zF9,zAaD (show(0:Int)<=x by omega) (show(x:Int)<=255 by omega),zAa,zAhO hx,zAG (op := .add),zC9]
 have e1:IntKind.i64.wrap (zVK x:Int)=zVK x:=by rw[zB8]<;>omega
 have e2:IntKind.i64.wrap ((off:Int)+(zVK x:Int))=((off+zVK x:Nat):Int):=by rw[zB8]<;>omega
 rw[e1,e2];exact h
def zAhf (H:zAw)(u:Nat)(v:Value)(H':zAw):Prop:=H=H'/\∃ m:Nat,v = .int .i64 (m:Nat)/\0<m/\2 ^ (m-1)<=u/\u<2 ^ m
theorem zAaU {H:zAw}{u:Nat}(h0:0<u)(hu:u<1000000):zAA prg zHu [.int .u64 (u:Nat)] H (zAhf H u):=by
 apply zGb
 unfold zG3
 have s16:zAB .no .shr (.int .u64 (u:Nat)) (.int .u64 16)=some (.int .u64 ((u / 65536:Nat):Int)):=by rw[zTm (by omega)];exact congrArg (λz=>some (Value.int .u64 z)) (zWY (k := .u64) (u:=u) (b:=16) (by decide))
 have s8:zAB .no .shr (.int .u64 (u:Nat)) (.int .u64 8)=some (.int .u64 ((u / 256:Nat):Int)):=by rw[zTm (by omega)];exact congrArg (λz=>some (Value.int .u64 z)) (zWY (k := .u64) (u:=u) (b:=8) (by decide))
 have a16:zAB .no .add (.int .i64 0) (.int .i64 16)=some (.int .i64 (16:Nat)):=rfl
 have a8:zAB .no .add (.int .i64 0) (.int .i64 8)=some (.int .i64 (8:Nat)):=rfl
 simp only[zAaw,zAG (op := .geq),zC9,zAa,zAl,decide_eq_true_eq]
 rw[if_neg (by omega)]
 by_cases h1:65536<=u
 ·rw[if_pos (by omega),s16,zAa,a16,zAa]
  simp only[zAG (op := .geq),zC9,zAa,zAl,decide_eq_true_eq]
  rw[if_neg (by omega)]
  refine zQC (R:=zAhf H u) (H:=H) (off:=16) (x:=u / 65536) (by omega) (by omega) ?_
  obtain⟨l1,l2,l3⟩:=zSS (x:=u / 65536) (by omega)
  generalize zVK (u / 65536)=m at *
  refine⟨rfl,16+m,rfl,by omega,?_,?_⟩
  ·rw[show 16+m-1=16+(m-1) by omega,Nat.pow_add];omega
  ·rw[Nat.pow_add];omega
 ·rw[if_neg (by omega)]
  by_cases h2:256<=u
  ·rw[if_pos (by omega),s8,zAa,a8,zAa]
   refine zQC (R:=zAhf H u) (H:=H) (off:=8) (x:=u / 256) (by omega) (by omega) ?_
   obtain⟨l1,l2,l3⟩:=zSS (x:=u / 256) (by omega)
   generalize zVK (u / 256)=m at *
   refine⟨rfl,8+m,rfl,by omega,?_,?_⟩
   ·rw[show 8+m-1=8+(m-1) by omega,Nat.pow_add];omega
   ·rw[Nat.pow_add];omega
  ·rw[if_neg (by omega)]
   refine zQC (R:=zAhf H u) (H:=H) (off:=0) (x:=u) (by omega) (by omega) ?_
   obtain⟨l1,l2,l3⟩:=zSS h0
   exact⟨rfl,0+zVK u,rfl,by omega,by rw[zAh];exact l2,by rw[zAh];exact l3⟩
theorem zAhP:∀ m,m<21->7<=m->10 ^ (m*78913 / 262144-1)<=2 ^ (m-1)/\2 ^ m<=10 ^ (m*78913 / 262144+1)/\m*78913 / 262144<20:=by decide
theorem zW0 {H:zAw}{u:Nat}(h0:100<=u)(hu:u<1000000)(hT:zAdc H):zAA prg zEW [.int .u64 (u:Nat)] H λv H'=>H=H'/\∃ nd:Nat,v = .int .i64 (nd:Nat)/\3<=nd/\nd<=6/\10 ^ (nd-1)<=u/\u<10 ^ nd:=by
 apply zIu
 unfold zGE
 refine zAM (zAaU (by omega) hu) ?_
 rintro _ _ ⟨rfl,m,rfl,hm0,hm1,hm2⟩
 have m7:7<=m:=by
  rcases Nat.lt_or_ge m 7 with h|h
  ·have:2 ^ m<=2 ^ 6:=zB3 (by omega) (by omega)
   omega
  ·exact h
 have m20:m<21:=by
  rcases Nat.lt_or_ge m 21 with h|h
  ·exact h
  ·have:2 ^ 20<=2 ^ (m-1):=zB3 (by omega) (by omega)
   omega
 obtain⟨b1,b2,b3⟩:=zAhP m m20 m7
 generalize hq:m*78913 / 262144=q at *
 refine zAM (R:=λv H'=>H=H'/\v = .int .i64 (q:Nat)) ?_ ?_
 ·apply zIv
  unfold zGF
  have e:zAB .no .mul (.int .i64 (m:Nat)) (.int .i64 78913)=some (.int .i64 ((m*78913:Nat):Int)):=by
   rw[zAG];simp only[zC9];rw[zB8]<;>first|rfl|omega
  rw[e,zAa,zTm (by omega),zAa]
  refine⟨rfl,?_⟩
  have:=zWY (k := .i64) (u:=m*78913) (b:=18) (by decide)
  rw[show(2:Nat) ^ 18=262144 by rfl,hq]at this
  exact congrArg (Value.int .i64) this
 rintro _ _ ⟨rfl,rfl⟩
 rw[zSJ b3,zAa,hT.tab.ld (zAaT q b3),zAa]
 simp only[zAG (op := .geq),zC9,zAa]
 refine zAM (R:=λv H'=>H=H'/\v = .int .i64 ((if 10 ^ q<=u then 1 else 0:Nat):Int)) ?_ ?_
 ·apply zIw
  unfold zGG
  rw[zAl]
  by_cases h:10 ^ q<=u
  ·rw[if_pos (by simpa using Int.ofNat_le.2 h),if_pos h];exact⟨rfl,rfl⟩
  ·rw[if_neg (by simpa using λh'=>h (Int.ofNat_le.1 h')),if_neg h];exact⟨rfl,rfl⟩
 rintro _ _ ⟨rfl,rfl⟩
 have bnd:∀ nd,10 ^ (nd-1)<=u->u<10 ^ nd->3<=nd/\nd<=6:=λnd g1 g2=>by
  constructor
  ·rcases Nat.lt_or_ge nd 3 with h|h
   ·have:10 ^ nd<=10 ^ 2:=zB3 (by omega) (by omega)
    omega
   ·exact h
  ·rcases Nat.lt_or_ge 6 nd with h|h
   ·have:10 ^ 6<=10 ^ (nd-1):=zB3 (by omega) (by omega)
    omega
   ·exact h
 have key:∃ nd:Nat,nd=q+(if 10 ^ q<=u then 1 else 0)/\3<=nd/\nd<=6/\10 ^ (nd-1)<=u/\u<10 ^ nd:=by
  by_cases h:10 ^ q<=u
  ·rw[if_pos h]
   have g2:u<10 ^ (q+1):=zAW hm2 b2
   obtain⟨g3,g4⟩:=bnd (q+1) (by simpa using h) g2
   exact⟨q+1,rfl,g3,g4,by simpa using h,g2⟩
  ·rw[if_neg h]
   have g1:10 ^ (q-1)<=u:=zBm b1 hm1
   obtain⟨g3,g4⟩:=bnd q g1 (by omega)
   exact⟨q,rfl,g3,g4,g1,by omega⟩
 obtain⟨nd,hnd,k3,k6,k1,k2⟩:=key
 have e:zAB .no .add (.int .i64 (q:Nat)) (.int .i64 ((if 10 ^ q<=u then 1 else 0:Nat):Int))=some (.int .i64 (nd:Nat)):=by
  rw[zAG];simp only[zC9];rw[hnd];push_cast;rw[zB8]<;>first|rfl|(split<;>omega)
 rw[e,zAa]
 exact⟨rfl,nd,rfl,k3,k6,k1,k2⟩
theorem zAjE:zBF prg zLK=some (zBG (List.replicate 24 0)).toArray:=by kernel_rfl
theorem zAhQ {n:Nat}(hn:n<1000000){H:zAw}(hT:zAdc H):zAA prg zHY [.int .i64 n] H λu H'=>u=str (zHS n)/\Keep zAK H H':=by
 by_cases hs:n<100
 ·exact zWX hs
 apply zKq
 unfold zLM
 refine zAM (R:=λu H'=>u=str (zHS n)/\Keep zAK H H') ?_ λu h hR=>hR
 apply zGk
 unfold zGa
 refine zAM (R:=λu H'=>u=str (zHS n)/\Keep zAK H H') ?_ λu h hR=>hR
 apply zFb
 unfold zEP
 have e1:((10:Int) == 10)=true:=rfl
 have e2:(0:Int)<=n:=by omega
 have e3:¬ (n:Int)<100:=by omega
 have e4:¬ (n:Int)<0:=by omega
 have ec:IntKind.u64.wrap (n:Int)=(n:Nat):=zX2 (by omega) (by omega)
 simp only[zAG (op := .eql),zAG (op := .leq),zAG (op := .lss),zC9,zAa,zAl,e1,if_true,zBN,zAL,e2,e3,e4,decide_true,decide_false,zAt,zAb,if_false,zAjE,zBd,zF9,ec]
 generalize hH1:H.push (.cells (zBG (List.replicate 24 0)).toArray zLK (0,0))=H1
 have k1:Keep zAK H H1:=by rw[<- hH1];exact Keep.push
 have hq1:H1[H.size]? = some (.cells (zBG (List.replicate 24 0)).toArray zLK (0,0)):=by rw[<- hH1];exact zCh
 refine zAM (zW0 (by omega) hn (hT.keep k1 λ_ h=>h.elim)) ?_
 rintro _ _ ⟨rfl,nd,rfl,h3,h6,p1,p2⟩
 have a1:zAB .no .add (.int .i64 1) (.int .i64 (nd:Nat))=some (.int .i64 ((1+nd:Nat):Int)):=by
  rw[zAG];simp only[zC9];rw[zB8]<;>first|rfl|omega
 have sl:slA 24 1 (.pointer (some ⟨H.size,0,none⟩)) (some (.int .i64 1)) (some (.int .i64 ((1+nd:Nat):Int))) none=some (.slice (some ⟨H.size,1,none⟩) nd 23):=by
  have hs:nd=3\/nd=4\/nd=5\/nd=6:=by omega
  rcases hs with rfl|rfl|rfl|rfl<;>rfl
 rw[a1,zAa,sl,zAa]
 refine zAM (zY9 hq1 (by simp) h3 h6 p2) ?_
 rintro _ h8 ⟨cs,hq8,hl8,hd,k8⟩
 have hb:b2s h8 (.slice (some ⟨H.size,1,none⟩) nd 23)=some (str (zJH nd n)):=by
  have hpl:(zJH nd n).length=nd:=by
   have hs:nd=3\/nd=4\/nd=5\/nd=6:=by omega
   rcases hs with rfl|rfl|rfl|rfl<;>rfl
  exact(Bs.mk (l:=zJH nd n) hq8 hpl.symm (by simp[hl8];omega) (by simpa using hd)).b2s λs h=>by cases h
 simp only[a1,sl,hb,zAa]
 obtain⟨m,rfl⟩:∃ m,nd=m+1:=⟨nd-1,by omega⟩
 refine⟨by rw[zX3 m n (by simpa using p1) p2],?_⟩
 exact⟨zBm k1.1 k8.1,λi hi _=>by rw[k8.2 i (zAW hi k1.1) (by omega),k1.2 i hi id]⟩
theorem zAf0 {H:zAw}{v:Ver}(hv:v.wf)(hT:zAdc H):zAA prg zFh [.agg (zEt v).toArray] H λu H'=>u=str (zLw v)/\Keep zAK H H' :=
 zAfZ hv λn _ h0 h1 h k=>by
  obtain⟨m,rfl⟩:∃ m:Nat,n=m:=⟨n.toNat,by omega⟩
  exact zAhQ (by omega) (hT.keep k λ_ hb=>zBm hT.sz hb)
theorem Items.one {P:zAY}{H:zAw}{v:Value}{xs:List Item}(h:Items P H v xs):v.oneCell'=true:=h.1.oneC
structure zAeC where
 k:Int
 bef:List Item
 aft:List Item
 s:Int
 r:List UInt8
instance:DecidableEq Ver:=λa b=>decidable_of_iff (a.p=b.p/\a.pre=b.pre) (by cases a;cases b;simp)
instance:DecidableEq Item:=λa b=>decidable_of_iff (a.name=b.name/\a.ver=b.ver/\a.sum=b.sum) (by cases a;cases b;simp)
theorem zKc {k1 k2:List Nat}{a1 a2 b1 b2:List Value}{p q:Bool}(ha:a1.length=k1.length)(hb:b1.length=k1.length)(h1:zCG k1 a1 b1=some p)(h2:zCG k2 a2 b2=some q):zCG (k1++k2) (a1++a2) (b1++b2)=some (p&&q):=by
 induction k1 generalizing a1 b1 p with
 | nil =>
  obtain rfl:=zBg.1 ha
  obtain rfl:=zBg.1 hb
  simp only[zCG,zAk]at h1
  subst h1;simpa using h2
 | cons k k1 ih =>
  match a1,b1,ha,hb with
  | a::a1,b::b1,ha,hb =>
   simp only[zCG]at h1
   simp only[zCm,zCG]
   cases hx:zM5 k a b with
   | none=>rw[hx]at h1;cases h1
   | some x =>
    cases hy:zCG k1 a1 b1 with
    | none=>rw[hx,hy]at h1;cases h1
    | some y =>
     rw[hx,hy]at h1
     simp only[zAk]at h1
     rw[ih (by simpa using ha) (by simpa using hb) hy]
     simp[<- h1,Bool.and_assoc]
theorem zRK {k:IntKind}{l m:List Int}(h:l.length=m.length):zCG (List.replicate l.length 0) (zCe k l) (zCe k m)=some (decide (l=m)):=by
 induction l generalizing m with
 | nil=>cases m with
  | nil=>rfl
  | cons b m=>cases h
 | cons a l ih=>cases m with
  | nil=>cases h
  | cons b m =>
   have e:zM5 0 (.int k a) (.int k b)=some (decide (a=b)):=by
    simp only[zM5,if_true];congr 1
   have e2:=ih (m:=m) (by simpa using h)
   simp only[zCe]at e2
   simp only[zAZ,List.replicate_succ,zCe,zBa,zCG,e,e2]
   congr 1
   simp[zA1]
theorem zL3 {a b:List UInt8}:zCG [2] [str a] [str b]=some (decide (a=b)):=by
 simp only[zCG,zM5,zLL,Bool.and_true]
 congr 1;rw[zA1];simp
def New (H H':zAw):zAY:=λb=>H.size<=b/\b<H'.size
theorem zAkC {H:zAw}{q:Nat}{z m:List Value}{T:TypeId}(hq:H[q]? = some (.cells z.toArray T (0,0)))(hz:z.length=36)(hm:m.length=36)(h1:∀ c∈m,c.oneCell'=true):stN 36 H (Ptr q 0) (.agg m.toArray)=some (H.setIfInBounds q (.cells m.toArray T (0,0))):=by
 have:=zOA (n:=36) (o:=0) (A:=[]) (B:=z) (C:=[]) (B':=m) (by rw[zAX,zAS];exact hq) rfl (by simp[hz]) hm (zTS h1)
 rw[zAX,zAS]at this
 exact this
theorem Items.mono {P Q:zAY}{H:zAw}{v:Value}{xs:List Item}(h:Items P H v xs)(k:∀ b,P b->Q b):Items Q H v xs:=⟨h.1.mono k,h.2⟩
theorem BufE.re {n:Nat}{F G:zAY}{H:zAw}{v:Value}{xs:List (List Value)}(h:BufE n F H v xs)(k:∀ b,b<H.size->F b->G b):BufE n G H v xs:=by
 obtain⟨h1,h2,h|⟨b,o,c,cs,T,f,rfl,hf,hc,hb,hr⟩⟩:=h
 ·exact⟨h1,h2,.inl h⟩
 ·exact⟨h1,h2,.inr ⟨b,o,c,cs,T,f,rfl,k b (lt_of hb) hf,hc,hb,hr⟩⟩
def zUC (F:zAY)(H:zAw)(a:zAeC)(x:Value×Value):Prop:=a.r.length=32/\Items F H x.1 a.bef/\Items F H x.2 a.aft/\a.bef.length<=1048576/\a.aft.length<=1048576
theorem zUC.keep {F S:zAY}{H H':zAw}{a:zAeC}{x:Value×Value}(h:zUC F H a x)(k:Keep S H H')(hs:∀ b,F b->¬ S b):zUC F H' a x:=⟨h.1,h.2.1.keep k hs,h.2.2.1.keep k hs,h.2.2.2⟩
theorem zUC.mono {F G:zAY}{H:zAw}{a:zAeC}{x:Value×Value}(h:zUC F H a x)(k:∀ b,F b->G b):zUC G H a x:=⟨h.1,h.2.1.mono k,h.2.2.1.mono k,h.2.2.2⟩
theorem Keep.back {S:zAY}{H H':zAw}(h:Keep zAK H H'){b:Nat}(hb:b<H.size):H[b]? = H'[b]?:=(h.2 b hb id).symm
theorem BufE.keepBack {n:Nat}{F:zAY}{H H':zAw}{v:Value}{xs:List (List Value)}(h:BufE n F H' v xs)(k:Keep zAK H H')(hs:∀ b,F b->b<H.size):BufE n F H v xs:=by
 obtain⟨h1,h2,h|⟨b,o,c,cs,T,f,rfl,hf,hc,hb,hr⟩⟩:=h
 ·exact⟨h1,h2,.inl h⟩
 ·exact⟨h1,h2,.inr ⟨b,o,c,cs,T,f,rfl,hf,hc,by rw[<- k.2 b (hs b hf) id];exact hb,hr⟩⟩
theorem SlE.keepBack {n:Nat}{P:zAY}{H H':zAw}{v:Value}{xs:List (List Value)}(h:SlE n P H' v xs)(k:Keep zAK H H')(hs:∀ b,P b->b<H.size):SlE n P H v xs:=by
 obtain⟨⟨a,c,hv,hc,hx⟩,h2,h3⟩:=h
 refine⟨⟨a,c,hv,hc,hx.imp id ?_⟩,h2,h3⟩
 rintro⟨b,o,rfl,hP,cs,T,f,hb,h4,h5⟩
 exact⟨b,o,rfl,hP,cs,T,f,by rw[<- k.2 b (hs b hP) id];exact hb,h4,h5⟩
theorem Items.keepBack {P:zAY}{H H':zAw}{v:Value}{xs:List Item}(h:Items P H' v xs)(k:Keep zAK H H')(hs:∀ b,P b->b<H.size):Items P H v xs:=⟨SlE.keepBack h.1 k hs,h.2⟩
theorem zUC.back {F S:zAY}{H h4 h16:zAw}{a:zAeC}{x:Value×Value}(h:zUC F h4 a x)(k:Keep zAK H h4)(hs:∀ b,F b->b<H.size)(k2:Keep S H h16)(hs2:∀ b,F b->¬ S b):zUC F h16 a x :=
 ⟨h.1,(Items.keepBack h.2.1 k hs).keep k2 hs2,(Items.keepBack h.2.2.1 k hs).keep k2 hs2,h.2.2.2⟩
section
variable {p:Nat} {Fr Fc Fi:zAY} {H:zAw} {rs:List zAeC} {ch:List (List UInt8)}
end
theorem zW1 {P:Program}{e:TypeId}{n:Nat}{z:Array Value}{v:Value}(hn:P.cellsOf e=n)(h0:0<n)(h1:n<=16777216)(hz:zBF P e=some z)(hzs:z.size=n)(hv:v.cells.size=n):zID P e 1 [(0,v)]=some v.cells:=by
 unfold zID
 rw[hn,if_neg (by omega),hz,zAT,if_pos hzs]
 have hs:(zQU z (1*n)).size=n:=by simp[zQU]
 have hspl:spl (zQU z (1*n)) (0*n) v.cells=v.cells:=by
  unfold spl
  rw[Nat.zero_mul,zAh,hv]
  apply Array.ext'
  have hs':(zQU z n).size=n:=by simpa using hs
  simp[hs']
 simp only[zPG]
 rw[if_pos ⟨hv,by rw[hs];omega⟩,hspl]
section
variable {p:Nat} {Fr Fc Fi P:zAY} {H:zAw} {rs:List zAeC} {ch:List (List UInt8)} {vb va:Value} {a:zAeC}
end
def zAf1:List Nat:=List.replicate 32 0
theorem zAdd:eqK prg zCt = .flat zAf1:=by kernel_rfl
theorem zAf2 {a b:List UInt8}(ha:a.length=32)(hb:b.length=32):zAB (eqK prg zCt) .neq (bv a) (bv b)=some (.bool (!decide (a=b))):=by
 unfold bv
 rw[zNH,zAdd]
 show(zCG zAf1 (zBG a).toArray.toList (zBG b).toArray.toList).map (λb=>Value.bool (!b))=_
 have:=zQn (l:=a) (m:=b) (by omega)
 rw[ha]at this
 unfold zAf1
 rw[zBH,zBH,this];rfl
end Go.Proofs.YticdfkoncnnmmaaGreatDoor
