import Derived.Test.YticdfkoncnnmmaaGreatDoorGH
import Derived.Lib.Bytealg
import Derived.Lib.Builder
import Derived.Lib.MakeNoZero
import Derived.Lib.UnsafeStr
set_option linter.unusedSimpArgs false
set_option linter.unusedVariables false
set_option maxRecDepth 100000
namespace Go.Proofs.YticdfkoncnnmmaaGreatDoor
open Go.X
def zRW (cs:List UInt8):List Value:=(List.range 256).map λi => .bool (cs.any λc=>c.toNat == i)
@[simp] theorem zAls {cs:List UInt8}:(zRW cs).length=256:=by simp[zRW]
theorem zAe8 {cs:List UInt8}:(zRW cs).toArray.all (·.oneCell')=true:=by
 rw[zBA];intro v hv
 simp only[zRW,List.mem_toArray,zAo]at hv
 obtain⟨i,_,rfl⟩:=hv;rfl
theorem zAe9 {cs:List UInt8}{x:UInt8}:(zRW cs)[x.toNat]? = some (.bool (cs.contains x)):=by
 have hx:x.toNat<256:=x.toNat_lt
 simp only[zRW,zAq,List.getElem?_range hx,zAT]
 congr 2
 rw[zAR]
 simp only[zBz,beq_iff_eq,List.contains_iff_mem]
 constructor
 ·rintro⟨c,hc,he⟩;rwa [<- UInt8.toNat.inj he]
 ·intro h;exact⟨x,h,rfl⟩
theorem zAfa {cs:List UInt8}{x:UInt8}:(zRW cs).set x.toNat (.bool true)=zRW (cs++[x]):=by
 apply zCT
 intro i
 rw[List.getElem?_set]
 by_cases hi:i<256
 ·simp only[zRW,zAq,List.getElem?_range hi,zAT,zAd,List.length_range,List.any_append,List.any_cons,List.any_nil,Bool.or_false]
  split
  ·rename_i h;subst h;rw[if_pos hi];simp
  ·rename_i h
   congr 2
   have:(x.toNat == i)=false:=by simpa using h
   rw[this,Bool.or_false]
 ·simp[zRW,hi]
  intro h;have:=x.toNat_lt;omega
theorem zAjV:zBI prg zDc=some (zRW []).toArray:=by kernel_rfl
theorem zAjW {H:zAx}{q:Nat}{cs:List UInt8}{T:TypeId}{f:Nat×Nat}(h:H[q]? = some (.cells (zRW cs).toArray T f)):ldN 256 H (Ptr q 0)=some (.agg (zRW cs).toArray) :=
 ldN_mid (A:=[]) (B:=zRW cs) (C:=[]) (by rw[zAY,zAP];exact h) rfl (by simp)
theorem zAjX {H:zAx}{q:Nat}{cs ds:List UInt8}{T:TypeId}(h:H[q]? = some (.cells (zRW cs).toArray T (0,0))):stN 256 H (Ptr q 0) (.agg (zRW ds).toArray)=some (H.setIfInBounds q (.cells (zRW ds).toArray T (0,0))):=by
 have:=zPF (n:=256) (o:=0) (A:=[]) (B:=zRW cs) (C:=[]) (B':=zRW ds) (by rw[zAY,zAP];exact h) rfl (by simp) (by simp) zAe8
 rw[zAY,zAP]at this
 exact this
theorem zU0 {H:zAx}{cs:List UInt8}(hcs:∀ c∈cs,c.toNat<128)(hl:cs.length<=1000) :
  zAA prg zHn [str cs] H λu H'=>u = .tuple #[.agg (zRW cs).toArray,.bool true]/\Keep zAK H H':=by
 apply zLQ
 unfold zJ4
 simp only[zAjV,zBb,zBT,zFu,zAa]
 generalize hH1:H.push (.cells (zRW []).toArray zDc (0,0))=H1
 have k1:Keep zAK H H1:=by rw[<- hH1];exact Keep.push
 have hq1:H1[H.size]? = some (.cells (zRW []).toArray zDc (0,0)):=by rw[<- hH1];exact zCj
 refine zKj (λu h=>∃ i,i<=cs.length/\u = .int .i64 (i:Nat)/\h[H.size]? = some (.cells (zRW (cs.take i)).toArray zDc (0,0))/\Keep (· = H.size) H1 h) (λu _=>match u with | .int _ t=>cs.length-t.toNat|_=>0)
  ⟨0,zAz _,rfl,hq1,Keep.refl⟩ ?_
 rintro _ h ⟨i,hi,rfl,hq,kh⟩ k hk
 simp only[zAJ,zC8,zAa,zAl,decide_eq_true_eq]
 by_cases hlt:(i:Int)<cs.length
 ·rw[if_pos hlt]
  have hlt':i<cs.length:=by omega
  have hg:cs[i]? = some cs[i]:=zAj hlt'
  have hc:=hcs cs[i] (by simp)
  have hx:cs[i].toNat<256:=cs[i].toNat_lt
  have hinc:IntKind.i64.wrap ((i:Int)+1)=(i+1:Nat):=by rw[zCe]<;>omega
  rw[zLN hg,zAa]
  simp only[zAJ,zC8,zAa,zAl,decide_eq_true_eq]
  rw[if_neg (by omega),zSD hx,zAa,zYt hq (by simpa using hx) rfl,zAW,zAfa,hinc]
  refine hk _ _ ⟨i+1,hlt',rfl,?_,kh.trans (Keep.set rfl)⟩ (by show cs.length-(i+1)<cs.length-i;omega)
  rw[zBm hq,zAG,hg];rfl
 ·rw[if_neg hlt]
  obtain rfl:i=cs.length:=by omega
  rw[zBE]at hq
  rw[zAjW hq,zAa,zAjX hq,zAW,zAjW (zBm hq),zAa]
  refine⟨rfl,?_⟩
  have:=k1.1;have:=kh.1
  refine⟨by simp;omega,λi hi _=>?_⟩
  rw[zAE,if_neg (by omega),kh.2 i (by omega) (by omega),k1.2 i hi id]
theorem zVt {H:zAx}{q:Nat}{cs:List UInt8}{T:TypeId}{f:Nat×Nat}(h:H[q]? = some (.cells (zRW cs).toArray T f)){x:UInt8} :
  zAA prg zEr [Ptr q 0,.int .u8 x.toNat] H λu H'=>u = .bool (cs.contains x)/\H=H':=by
 apply zJE
 unfold zHC
 simp only[zHX,zAa]
 rw[zSD x.toNat_lt,zAa,zTg h]
 have:=zAe9 (cs:=cs) (x:=x)
 simp only[zDk,this,zAa]
 exact⟨by trivial,by trivial⟩
def zOk (cs l:List UInt8):List UInt8:=l.dropWhile cs.contains
def zNU (cs l:List UInt8):List UInt8:=(l.reverse.dropWhile cs.contains).reverse
theorem zVu {cs m:List UInt8}{x:UInt8}:zNU cs (m++[x])=if cs.contains x then zNU cs m else m++[x]:=by
 unfold zNU
 rw[List.reverse_append]
 simp only[zCU,List.reverse_nil,zAY,List.singleton_append,List.dropWhile_cons]
 split<;>simp
theorem dropWhile_nil {p:UInt8->Bool}{l:List UInt8}:l.dropWhile p=[]↔∀ x∈l,p x=true:=by
 induction l with
 | nil=>simp
 | cons a l ih =>
  rw[List.dropWhile_cons]
  by_cases h:p a=true
  ·rw[if_pos h,ih];simp[h]
  ·rw[if_neg h];simp[h]
theorem zZ2 {cs l:List UInt8}:zOk cs (zNU cs l)=[]↔∀ x∈l,cs.contains x=true:=by
 unfold zOk
 rw[dropWhile_nil]
 unfold zNU
 constructor
 ·intro h
  have h2:∀ x∈l.reverse.dropWhile cs.contains,cs.contains x=true:=λx hx=>h x (List.mem_reverse.2 hx)
  have h3:l.reverse.dropWhile cs.contains=[]:=by
   cases hd:l.reverse.dropWhile cs.contains with
   | nil=>rfl
   | cons y t =>
    have:=List.head?_dropWhile_not (p:=cs.contains) l.reverse
    rw[hd]at this
    simp only[List.head?_cons]at this
    have h4:=h2 y (by rw[hd];simp)
    rw[h4]at this
    cases this
  intro x hx
  exact dropWhile_nil.1 h3 x (List.mem_reverse.2 hx)
 ·intro h x hx
  have:=(List.dropWhile_sublist cs.contains (l:=l.reverse)).subset (List.mem_reverse.1 hx)
  exact h x (List.mem_reverse.1 this)
theorem zUj {H:zAx}{q:Nat}{cs l:List UInt8}{T:TypeId}{f:Nat×Nat}(h:H[q]? = some (.cells (zRW cs).toArray T f)) :
  zAA prg zGZ [str l,Ptr q 0] H λu H'=>u=str (zOk cs l)/\H=H':=by
 apply zLi
 unfold zJn
 simp only[zBT]
 refine zKj (λu h=>∃ m,u=str m/\zOk cs m=zOk cs l/\H=h) (λu _=>match u with | .string s=>s.size|_=>0) ⟨l,rfl,rfl,rfl⟩ ?_
 rintro _ _ ⟨m,rfl,hm,rfl⟩ k hk
 simp only[zFu,zAa,zAJ,zC8,zAl,decide_eq_true_eq]
 cases m with
 | nil=>rw[if_neg (by simp)];exact⟨by rw[<- hm];rfl,by trivial⟩
 | cons x m =>
  rw[if_pos (by simp only[zAS];omega)]
  have e:ixT (str (x::m)) (.int .i64 0)=some (.int .u8 x.toNat):=zLN (i:=0) rfl
  rw[e,zAa]
  refine zAI (zVt h) ?_
  rintro _ _ ⟨rfl,rfl⟩
  simp only[zA7,zAa,zAl]
  by_cases hc:cs.contains x=true
  ·rw[if_neg (by rw[hc];decide)]
   have e2:slT (str (x::m)) (some (.int .i64 1)) none=some (str m):=by
    have:=zSE (l:=x::m) (lo:=1) (hi:=(x::m).length) (a:=some (.int .i64 1)) (b:=none) (by simp) (zAh _) (by simp[bnd];omega) (by simp[bnd])
    simpa using this
   rw[e2,zAa]
   refine hk _ _ ⟨m,rfl,?_,rfl⟩ (by show(ByteArray.mk m.toArray).size<(ByteArray.mk (x::m).toArray).size;rw[zJa,zJa];simp)
   rw[<- hm];unfold zOk;rw[List.dropWhile_cons,if_pos hc]
  ·rw[if_pos (by rw[eq_false_of_ne_true hc];rfl)]
   refine⟨?_,by trivial⟩
   rw[<- hm];unfold zOk;rw[List.dropWhile_cons,if_neg hc]
theorem zTw {H:zAx}{q:Nat}{cs l:List UInt8}{T:TypeId}{f:Nat×Nat}(h:H[q]? = some (.cells (zRW cs).toArray T f))(hl:l.length<=9223372036854775807) :
  zAA prg zGz [str l,Ptr q 0] H λu H'=>u=str (zNU cs l)/\H=H':=by
 apply zKQ
 unfold zIG
 simp only[zBT]
 refine zKj (λu h=>∃ m,u=str m/\zNU cs m=zNU cs l/\m.length<=l.length/\H=h) (λu _=>match u with | .string s=>s.size|_=>0) ⟨l,rfl,rfl,zAh _,rfl⟩ ?_
 rintro _ _ ⟨m,rfl,hm,hml,rfl⟩ k hk
 simp only[zFu,zAa,zAJ,zC8,zAl,decide_eq_true_eq]
 rcases List.eq_nil_or_concat m with rfl|⟨m,x,rfl⟩
 ·rw[if_neg (by simp)];exact⟨by rw[<- hm];rfl,by trivial⟩
 ·rw[List.concat_eq_append]at *
  rw[if_pos (by simp only[zAt,zAS];omega)]
  have hw:IntKind.i64.wrap (((m++[x]).length:Int)-1)=(m.length:Nat):=by rw[zCe]<;>simp at hml ⊢ <;> omega
  have e:ixT (str (m++[x])) (.int .i64 (m.length:Nat))=some (.int .u8 x.toNat):=zLN (by simp)
  rw[hw,e,zAa]
  refine zAI (zVt h) ?_
  rintro _ _ ⟨rfl,rfl⟩
  simp only[zA7,zAa,zAl]
  by_cases hc:cs.contains x=true
  ·rw[if_neg (by rw[hc];decide)]
   have e2:slT (str (m++[x])) none (some (.int .i64 (m.length:Nat)))=some (str m):=by
    have:=zSE (l:=m++[x]) (lo:=0) (hi:=m.length) (a:=none) (b:=some (.int .i64 (m.length:Nat))) (zAz _) (by simp) (by simp[bnd]) (by simp[bnd];omega)
    simpa using this
   rw[e2,zAa]
   refine hk _ _ ⟨m,rfl,?_,by simp at hml;omega,rfl⟩ (by show(ByteArray.mk m.toArray).size<(ByteArray.mk (m++[x]).toArray).size;rw[zJa,zJa];simp)
   rw[<- hm,zVu,if_pos hc]
  ·rw[if_pos (by rw[eq_false_of_ne_true hc];rfl)]
   refine⟨?_,by trivial⟩
   rw[<- hm,zVu,if_neg hc]
theorem zAcO {H:zAx}{cs l:List UInt8}(hcs:∀ c∈cs,c.toNat<128)(h2:2<=cs.length)(h3:cs.length<=1000)(hl:l.length<=9223372036854775807) :
  zAA prg zHi [str l,str cs] H λu H'=>u=str (zOk cs (zNU cs l))/\Keep zAK H H':=by
 apply zPL
 unfold zPK
 have e1:zTt .eql ⟨l.toArray⟩ ⟨#[]⟩=some (.bool (decide (l=[]))):=zQ7 (b:=[])
 have e2:zTt .eql ⟨cs.toArray⟩ ⟨#[]⟩=some (.bool (decide (cs=[]))):=zQ7 (b:=[])
 have hne:decide (cs=[])=false:=by cases cs<;>simp at h2 ⊢
 simp only[zGf,e1,e2,hne,zAa,zBT,zAQ,zFu]
 by_cases h0:l=[]
 ·subst h0
  simp only[decide_true,zAc,if_false,zAv,if_true,zAa,zAl]
  exact⟨rfl,Keep.refl⟩
 ·have hd:decide (l=[])=false:=by simpa using h0
  have hn1:((cs.length:Int) == 1)=false:=by simp;omega
  simp only[hd,if_true,zAv,zAb,if_false,zAa,zAl,zAJ,zC8,hn1,zAQ]
  refine zAI (zU0 hcs h3) ?_
  rintro _ h1 ⟨rfl,k1⟩
  simp only[zSC,zDk,zC4,zC5,zAa,zAjV,zBb]
  have hq:(h1.push (.cells (zRW []).toArray zDc (0,0)))[h1.size]? = some (.cells (zRW []).toArray zDc (0,0)):=zCj
  rw[zAjX hq,zAW,zAl,if_pos rfl]
  have hq2:=zBm (y := .cells (zRW cs).toArray zDc (0,0)) hq
  refine zAI (zTw hq2 hl) ?_
  rintro _ _ ⟨rfl,rfl⟩
  refine zAI (zUj hq2) ?_
  rintro _ _ ⟨rfl,rfl⟩
  refine⟨rfl,?_⟩
  have:=k1.1
  refine⟨by simp;omega,λi hi _=>?_⟩
  rw[zAE,if_neg (by omega),zCf,if_neg (by omega),k1.2 i hi id]
theorem zNA {args:Array Value}:xtV prg zFU args=Extern.BytealgIndexByte.indexByte args:=by kernel_rfl
theorem zYT {H:zAx}{l:List UInt8}{x:UInt8}:zAA prg zI5 [str l,.int .u8 x.toNat] H λu H'=>u = .int .i64 (Lib.indexByte l x)/\H=H':=by
 apply zNi
 unfold zL2
 refine zAA.mono (R:=λu H'=>u = .int .i64 (Lib.indexByte l x)/\H=H') ?_ λu h hR=>hR
 apply zEX
 unfold zEx
 intro w hw
 refine⟨_,w,by rw[zNA];exact Lib.run_indexByteString _ _ w,zJI.rfl' w,?_,hw.symm⟩
 simp
def azL:List UInt8:=[97,98,99,100,101,102,103,104,105,106,107,108,109,110,111,112,113,114,115,116,117,118,119,120,121,122]
def zU1:List UInt8:=azL++[48,49,50,51,52,53,54,55,56,57]
def zU2:List UInt8:=zU1++[45]
def zJv (l:List UInt8):Bool:=decide (l≠[])&&decide (l.length<=32)&&decide (∀ x∈l,zU2.contains x=true)&&decide (Lib.indexByte azL (l.headD 0)>=0)
theorem zZ3 {H:zAx}{l:List UInt8}(hl:l.length<=9223372036854775807):zAA prg zGv [str l] H λu H'=>u = .bool (zJv l)/\Keep zAK H H':=by
 apply zPe
 unfold zOZ
 have e1:zTt .neq ⟨l.toArray⟩ ⟨#[]⟩=some (.bool (!decide (l=[]))):=zYM (b:=[])
 simp only[zGf,e1,zAa,zBT,zAQ,zFu,zAJ,zC8]
 cases l with
 | nil=>simp[zJv,Keep.refl]
 | cons x l =>
  have hd:(!decide (x::l=[]))=true:=by simp
  have hi:ixT (str (x::l)) (.int .i64 0)=some (.int .u8 x.toNat):=zLN (i:=0) rfl
  simp only[hd,if_true,zAv,zAa]
  by_cases h32:(((x::l).length:Nat):Int)<=32
  ·have h32':(x::l).length<=32:=by omega
   simp only[h32,decide_true,zAQ,if_true]
   refine zAI (zAcO (cs:=zU2) (by decide) (by decide) (by decide) hl) ?_
   rintro _ h1 ⟨rfl,k1⟩
   have e3:zTt .eql ⟨(zOk zU2 (zNU zU2 (x::l))).toArray⟩ ⟨#[]⟩=some (.bool (decide (zOk zU2 (zNU zU2 (x::l))=[]))):=zQ7 (b:=[])
   have e4:decide (zOk zU2 (zNU zU2 (x::l))=[])=decide (∀ y∈x::l,zU2.contains y=true):=by rw[decide_eq_decide];exact zZ2
   simp only[zGf,e3,e4,zAa]
   by_cases ha:∀ y∈x::l,zU2.contains y=true
   ·simp only[decide_eq_true ha,zAQ,if_true,hi,zAa]
    refine zAI (zYT (l:=azL) (x:=x)) ?_
    rintro _ _ ⟨rfl,rfl⟩
    simp only[zAJ,zC8,zAv,if_true,zAa]
    refine⟨?_,k1⟩
    unfold zJv
    rw[decide_eq_true ha,decide_eq_true h32']
    simp
   ·simp only[decide_eq_false ha,zAQ,zAb,if_false,zAv,zAa]
    refine⟨?_,k1⟩
    unfold zJv
    rw[decide_eq_false ha];simp
  ·have h32':¬ (x::l).length<=32:=by omega
   simp only[h32,decide_false,zAQ,zAb,if_false,zAv,zAa]
   refine⟨?_,Keep.refl⟩
   unfold zJv
   rw[decide_eq_false h32'];simp
def Row (F:zA1)(H:zAx)(v:Value)(l:List UInt8):Prop :=
 (v = .slice none 0 0/\l=[])\/∃ b c cs,v = .slice (some ⟨b,0,none⟩) l.length c/\F b/\l.length<=c/\H[b]? = some (.cells cs zCl (0,0))/\c<=cs.size/\0<c/\cs.toList.take l.length=zBs l
theorem Row.one {F:zA1}{H:zAx}{v:Value}{l:List UInt8}(h:Row F H v l):v.oneCell'=true:=by
 rcases h with ⟨rfl,_⟩|⟨b,c,cs,rfl,_⟩<;>rfl
theorem Row.len {F:zA1}{H:zAx}{v:Value}{l:List UInt8}(h:Row F H v l):lenV v=some (.int .i64 l.length):=by
 rcases h with ⟨rfl,rfl⟩|⟨b,c,cs,rfl,_⟩<;>rfl
theorem Row.keep {F S:zA1}{H H':zAx}{v:Value}{l:List UInt8}(h:Row F H v l)(k:Keep S H H')(hs:∀ b,F b->¬ S b):Row F H' v l:=by
 rcases h with h|⟨b,c,cs,rfl,hf,hc,hb,hr⟩
 ·exact .inl h
 ·exact .inr ⟨b,c,cs,rfl,hf,hc,k.at hb (hs b hf),hr⟩
theorem Row.app {F:zA1}{H:zAx}{s x:Value}{l m:List UInt8}{k:zAm}(h:Row F H s l)(hx:Bs H x m)(hlen:l.length+m.length<=140737488355328)(hf:F H.size)
  (hk:∀ v H',Row F H' v (l++m)->Keep F H H'->k v H'):zIw zCl 1 1 H s x k:=by
 rcases h with ⟨rfl,rfl⟩|⟨b,c,cs,rfl,hb',hc,hb,hle,h0c,hl⟩
 ·refine⟨none,0,0,m.length,(zBs m).toArray,rfl,hx,zJk,λh0=>?_,λh0=>⟨by simpa using hlen,Nat.one_pos,#[],rfl,λcap rest h1 h2 h3=>?_⟩⟩
  ·have:m=[]:=zBo.1 (by omega)
   subst this
   exact hk _ _ (.inl ⟨rfl,rfl⟩) Keep.refl
  ·refine hk _ _ (.inr ⟨H.size,cap,_,by simp,hf,by simpa using h1,zCj,?_,by omega,?_⟩) Keep.push
   ·simp at h3 ⊢;omega
   ·simp
 ·refine⟨some ⟨b,0,none⟩,l.length,c,m.length,(zBs m).toArray,rfl,hx,zJk,λh0=>?_,λh0=>⟨by simpa using hlen,Nat.one_pos,(zBs l).toArray,?_,λcap rest h1 h2 h3=>?_⟩⟩
  ·refine⟨_,zQM hb _ _ zLL (by simp;omega) zJk,hk _ _ (.inr ⟨b,c,_,by simp,hb',by simpa using h0,zBm hb,?_,h0c,?_⟩) (Keep.set hb')⟩
   ·rw[zI0 (by simp;omega)];exact hle
   ·show(List.take (0+l.length*1) cs.toList++zBs m++_).take (l++m).length=_
    rw[zCB,zAi,hl,zBj (by simp),<- zJZ,zAr (by simp)]
  ·exact Bs.mk hb rfl (by omega) (by simpa using hl)
  ·refine hk _ _ (.inr ⟨H.size,cap,_,by simp,hf,by simpa using h1,zCj,?_,by omega,?_⟩) Keep.push
   ·simp at h3 ⊢;omega
   ·show(((zBs l).toArray++(zBs m).toArray++rest).toList).take (l++m).length=_
    simp only[Array.toList_append];rw[zBj (by simp),<- zJZ,zAr (by simp)]
def BAt (F:zA1)(p:Nat)(H:zAx)(l:List UInt8):Prop :=
 ¬ F p/\∃ a v,H[p]? = some (.cells #[a,v] zBY (0,0))/\(a = .pointer none\/a=Ptr p 0)/\Row F H v l
theorem BAt.keep {F S:zA1}{p:Nat}{H H':zAx}{l:List UInt8}(h:BAt F p H l)(k:Keep S H H')(hs:∀ b,Wr F p b->¬ S b):BAt F p H' l:=by
 obtain⟨h1,a,v,h2,h3,h4⟩:=h
 exact⟨h1,a,v,k.at h2 (hs p (.inr rfl)),h3,h4.keep k λb hb=>hs b (.inl hb)⟩
theorem zXA:zBI prg zBY=some #[.pointer none,.slice none 0 0]:=by kernel_rfl
theorem zYU {args:Array Value}:xtV prg zJX args=Extern.AbiNoEscape.same args:=by kernel_rfl
theorem zAmR:prg.underlying zI8=some (.pointer zBY):=by kernel_rfl
theorem zAmS:prg.underlying zLK=some .unsafePointer:=by kernel_rfl
theorem i_B:∃ j,prg.info? zBY=some j/\j.size≠0:=by
 have h:(match prg.info? zBY with|some j=>j.size != 0|none=>false)=true:=by kernel_rfl
 split at h
 ·rename_i j hj;exact⟨j,hj,by simpa using h⟩
 ·cases h
theorem zAjY:liesAt prg prg.depth zBY (2 / prg.cellsOf zBY) 0 zBY 1=true:=by kernel_rfl
theorem zUk {F:zA1}{p:Nat}{H:zAx}{l:List UInt8}(h:BAt F p H l) :
  zAA prg zDL [Ptr p 0] H λu H'=>u = .tuple #[]/\BAt F p H' l/\Keep (· = p) H H':=by
 apply zJD
 unfold zHB
 obtain⟨hF,a,v,hp,ha,hr⟩:=h
 have d0:ld1 H (Ptr p 0)=some a:=by rw[zTg hp];rfl
 simp only[zHX,zBf,zAa,zAi,d0]
 rcases ha with rfl|rfl
 ·have e:zAB .ptr .eql (.pointer none) (.pointer none)=some (.bool true):=rfl
  simp only[e,zAa,zAl,if_true]
  obtain⟨j,hj,hj0⟩:=i_B
  intro w hw
  have hsh:w.shape? p=some (zBY,2):=by simp[World.shape?,hw,hp]
  refine⟨_,w,Lib.run_to_unsafe w ⟨p,0,none⟩ zAmR zAmS hj hj0 hsh (by show 0<2;omega),zJI.rfl' w,?_⟩
  rw[hw]
  intro w hw
  refine⟨Ptr p 0,w,by rw[zYU];exact Lib.run_noEscape w _,zJI.rfl' w,?_⟩
  rw[hw]
  intro w hw
  have hsh:w.shape? p=some (zBY,2):=by simp[World.shape?,hw,hp]
  refine⟨_,w,Lib.run_from_unsafe w ⟨p,0,none⟩ zAmS zAmR hj hsh zAjY,zJI.rfl' w,?_⟩
  rw[hw]
  show Mwr (st1 H (Ptr p 0) (Ptr p 0)) (λh4=>True/\BAt F p h4 l/\Keep (λx=>x=p) H h4)
  rw[zZX hp 0 _ (by simp) rfl,zAW]
  have k1:Keep (· = p) H (H.setIfInBounds p (.cells (#[.pointer none,v].setIfInBounds 0 (Ptr p 0)) zBY (0,0))):=Keep.set rfl
  exact⟨by trivial,⟨hF,Ptr p 0,v,by rw[zBm hp];rfl,.inr rfl,hr.keep k1 λb hb e=>hF (e ▸ hb)⟩,k1⟩
 ·have e:zAB .ptr .eql (Ptr p 0) (.pointer none)=some (.bool false):=rfl
  have e2:zAB .ptr .neq (Ptr p 0) (Ptr p 0)=some (.bool false):=by
   show(eqV .ptr (.pointer (some ⟨p,0,none⟩)) (.pointer (some ⟨p,0,none⟩))).map (λb=>Value.bool (!b))=_
   simp[eqV]
  simp only[e,e2,zAa,zAl,zAb,if_false]
  exact⟨by trivial,⟨hF,Ptr p 0,v,hp,.inr rfl,hr⟩,Keep.refl⟩
theorem BAt.ld {F:zA1}{p:Nat}{H:zAx}{l:List UInt8}(h:BAt F p H l):∃ v,ld1 H (Ptr p 1)=some v/\Row F H v l/\∀ (x:Value) (H':zAx),H'[p]? = H[p]?->x.oneCell'=true->∃ H2,st1 H' (Ptr p 1) x=some H2/\Keep (· = p) H' H2/\∀ m,Row F H' x m->BAt F p H2 m:=by
 obtain⟨hF,a,v,hp,ha,hr⟩:=h
 refine⟨v,by rw[zTg hp];rfl,hr,λx H' hH hx=>?_⟩
 rw[hp]at hH
 refine⟨_,zZX hH 1 x (by simp) hx,Keep.set rfl,λm hm=>⟨hF,a,x,by rw[zBm hH];rfl,ha,hm.keep (Keep.set (S:=(· = p)) rfl) λb hb e=>hF (e ▸ hb)⟩⟩
theorem zIc {F:zA1}{p:Nat}{H:zAx}{l m:List UInt8}(h:BAt F p H l)(hlen:l.length+m.length<=140737488355328)(hf:∀ b,H.size<=b->F b) :
  zAA prg zB2 [Ptr p 0,str m] H λu H'=>u = .tuple #[.int .i64 m.length,.nilIface]/\BAt F p H' (l++m)/\Keep (Wr F p) H H':=by
 apply zIE
 unfold zGS
 refine zAI (zUk h) ?_
 rintro _ h1 ⟨rfl,hb,k1⟩
 obtain⟨v,hld,hr,hst⟩:=hb.ld
 simp only[zHX,zBf,zAa,zAi,hld]
 refine hr.app zAgG hlen (hf _ k1.1) λx h2 hx k2=>?_
 obtain⟨h3,he,k3,hB⟩:=hst x h2 (k2.2 p (by obtain⟨_,a,v,hp,_⟩:=hb;exact lt_of hp) hb.1) hx.one
 simp only[he,zAW,zFu,zAa]
 exact⟨trivial,hB _ hx,((k1.mono λ_ _ h => .inr h).trans (k2.mono λ_ _ h => .inl h)).trans (k3.mono λ_ _ h => .inr h)⟩
theorem zWh {args:Array Value}:∃ t,prg.underlying t=some (.slice zCl)/\∃ ps,xtV prg zHd args=Extern.BytealgMakeNoZero.makeNoZero ps #[t] args :=
 ⟨zEv,by kernel_rfl,#[],by kernel_rfl⟩
theorem zAjZ {F:zA1}{p n:Nat}{H:zAx}(h:BAt F p H [])(hn:n<=140737488355328)(hnil:∃ a,H[p]? = some (.cells #[a,.slice none 0 0] zBY (0,0)))(hf:∀ b,H.size<=b->F b) :
  zAA prg zHo [Ptr p 0,.int .i64 n] H λu H'=>u = .tuple #[]/\BAt F p H' []/\Keep (Wr F p) H H':=by
 apply zLP
 unfold zJ3
 have hF:=h.1
 obtain⟨a,hp⟩:=hnil
 have hcc:zAA prg zDL [Ptr p 0] H λu H'=>u = .tuple #[]/\BAt F p H' []/\Keep (· = p) H H'/\∃ a,H'[p]? = some (.cells #[a,.slice none 0 0] zBY (0,0)):=by
  have ha:a = .pointer none\/a=Ptr p 0:=by
   obtain⟨_,a',v',hp',ha',_⟩:=h
   rw[hp]at hp';simp at hp';rw[hp'.1];exact ha'
  have hnone:BAt (λ_=>False) p H []:=⟨id,a,_,hp,ha,.inl ⟨rfl,rfl⟩⟩
  refine(zUk hnone).mono ?_
  rintro u h1 ⟨hu,⟨_,a1,v1,hp1,ha1,hr1⟩,k1⟩
  rcases hr1 with ⟨rfl,_⟩|⟨b,c,cs,rfl,hfb,_⟩
  ·exact⟨hu,⟨hF,a1,_,hp1,ha1,.inl ⟨rfl,rfl⟩⟩,k1,a1,hp1⟩
  ·exact hfb.elim
 refine zAI hcc ?_
 rintro _ h1 ⟨rfl,hb,k1,a1,hp1⟩
 have d1:ld1 h1 (Ptr p 1)=some (.slice none 0 0):=by rw[zTg hp1];rfl
 have e0:¬ ((n:Int)<0):=by omega
 have hc:zAgs (.slice none 0 0)=some (.int .i64 (0:Nat)):=rfl
 have hl:lenV (.slice none 0 0)=some (.int .i64 (0:Nat)):=rfl
 have w0:IntKind.i64.wrap (((0:Nat):Int)-((0:Nat):Int))=0:=rfl
 simp only[zAJ,zC8,e0,decide_false,zAa,zAl,zAb,if_false,zAcw,zHX,zBf,zAi,d1,hc,hl,w0,decide_eq_true_eq]
 have kk:Keep (Wr F p) H h1:=k1.mono λ_ _ h => .inr h
 by_cases hn0:(0:Int)<n
 ·rw[if_pos hn0]
  refine zAI (R:=λu H'=>u = .tuple #[]/\BAt F p H' []/\Keep (Wr F p) h1 H') ?_ λu h2 ⟨hu,hb2,k2⟩=>⟨by trivial,hb2,kk.trans k2⟩
  apply zLR
  unfold zJ5
  have w1:IntKind.i64.wrap (2*((0:Nat):Int))=0:=rfl
  have w2:IntKind.i64.wrap (0+(n:Int))=(n:Nat):=by rw[zCe]<;>omega
  simp only[zHX,zBf,zAa,zAi,d1,hc,hl,zAJ,zC8,w1,w2]
  obtain⟨t,ht,ps,hxt⟩:=zWh (args:=#[.int .i64 n])
  rw[hxt]
  intro w hw
  obtain⟨cs,hrun,hsz,_⟩:=Lib.run_makeNoZero (P:=prg) w ps t zCl ht n (by omega)
  refine⟨_,_,hrun,⟨rfl,rfl,rfl,zF5.push⟩,?_⟩
  have hheap:(w.drew.drew.alloc (.cells cs zCl)).heap=h1.push (.cells cs zCl (0,0)):=by rw[<- hw];rfl
  have hws:w.heap.size=h1.size:=by rw[hw]
  rw[hheap,hws]
  have hp2:=zTD (y := .cells cs zCl (0,0)) hp1
  have d2:ld1 (h1.push (.cells cs zCl (0,0))) (Ptr p 1)=some (.slice none 0 0):=by rw[zTg hp2];rfl
  have hsl:slS 1 (.slice (some ⟨h1.size,0,none⟩) n cs.size) none (some (.int .i64 (0:Nat))) none=some (.slice (some ⟨h1.size,0,none⟩) 0 cs.size):=by
   have:cs.size≠0:=by omega
   simp[slS,zNp,bnd,this]
  simp only[d2,zZV,zA8,true_and,hsl,zAa]
  have hq:(h1.push (.cells cs zCl (0,0)))[h1.size]? = some (.cells cs zCl (0,0)):=zCj
  refine zAlL hq (zAz _) rfl ?_
  have hb2:=hb.keep (S:=λ_=>False) (Keep.push (o := .cells cs zCl (0,0))) λ_ _=>id
  rw[zZX hp2 1 _ (by simp) rfl,zAW]
  have k3:Keep (· = p) (h1.push (.cells cs zCl (0,0))) ((h1.push (.cells cs zCl (0,0))).setIfInBounds p (.cells (#[a1,.slice none 0 0].setIfInBounds 1 (.slice (some ⟨h1.size,0,none⟩) 0 cs.size)) zBY (0,0))):=Keep.set rfl
  have hpn:h1.size≠p:=λe=>by have:=lt_of hp1;omega
  refine⟨?_,Keep.push.trans (k3.mono λ_ _ h => .inr h)⟩
  have ha1:a1 = .pointer none\/a1=Ptr p 0:=by
   obtain⟨_,a',v',hp',ha',_⟩:=hb
   rw[hp1]at hp';simp at hp';rw[hp'.1];exact ha'
  exact⟨hF,a1,_,by rw[zBm hp2];rfl,ha1,.inr ⟨h1.size,cs.size,cs,rfl,hf _ k1.1,zAz _,k3.at hq hpn,zAh _,by omega,rfl⟩⟩
 ·rw[if_neg hn0]
  exact⟨trivial,hb,kk⟩
theorem zOK {w:World}{b n:Nat}:(w.freeze ⟨b,0,none⟩ n).heap.size=w.heap.size/\(∀ i:Nat,i≠b->(w.freeze ⟨b,0,none⟩ n).heap[i]? = w.heap[i]?)/\∀ (i:Nat) (ds:Option (List Deferred)),w.heap[i]? = some (Obj.deferred ds)->(w.freeze ⟨b,0,none⟩ n).heap[i]? = some (Obj.deferred ds):=by
 unfold World.freeze
 split
 ·exact⟨rfl,λ_ _=>rfl,λ_ _ h=>h⟩
 ·refine⟨by simp,λi hi=>?_,λi ds h=>?_⟩
  ·simp only[Array.getElem?_modify];rw[if_neg (Ne.symm hi)]
  ·simp only[Array.getElem?_modify]
   split
   ·rw[h];rfl
   ·exact h
theorem zAj0:∃ t,(218:Nat)=t/\prg.underlying t=some (.pointer zCl):=⟨218,rfl,by kernel_rfl⟩
theorem zAmT:prg.cellsOf zCl=1:=by kernel_rfl
theorem zXB {F:zA1}{p:Nat}{H:zAx}{l:List UInt8}(h:BAt F p H l)(hl:l.length<=140737488355328) :
  zAA prg zE4 [Ptr p 0] H λu H'=>u=str l/\Keep F H H':=by
 apply zKP
 unfold zIF
 obtain⟨v,hld,hr,_⟩:=h.ld
 simp only[zHX,zBf,zAa,zAi,hld,hr.len]
 rcases hr with ⟨rfl,rfl⟩|⟨b,c,cs,rfl,hf,hc,hb,hle,h0c,hcs⟩
 ·have e:usd (.slice none 0 0)=some (.pointer none):=rfl
  rw[e,zAa]
  intro w hw
  refine⟨_,w,Lib.run_unsafeString_none w _ _ _ none,zJI.rfl' w,?_,by rw[hw];exact Keep.refl⟩
  rfl
 ·have e:usd (.slice (some ⟨b,0,none⟩) l.length c)=some (Ptr b 0):=by simp only[usd];rw[if_pos (by omega)]
  rw[e,zAa]
  intro w hw
  by_cases h0:l=[]
  ·subst h0
   refine⟨_,w,Lib.run_unsafeString_none w _ _ _ _,zJI.rfl' w,?_,by rw[hw];exact Keep.refl⟩
   rfl
  ·obtain⟨t,ht,hu⟩:=zAj0
   have hsh:w.shape? b=some (zCl,cs.size):=by simp[World.shape?,hw,hb]
   refine⟨_,_,Lib.run_unsafeString_row w _ _ _ zCl (by rw[ht];exact hu) zAmT b cs.size hsh l h0 (by omega) (by omega) ?_,?_,rfl,?_⟩
   ·intro j x hx
    have hlt:=(zAV.1 hx).1
    have:(zBs l)[j]? = some (.int .u8 x.toNat):=by simp[zBs,hx]
    rw[<- hcs,zCr,if_pos hlt]at this
    have e:(⟨b,0,none⟩:Addr).add j=⟨b,j,none⟩:=by
     unfold Addr.add;split
     ·rename_i h;subst h;rfl
     ·simp
    rw[e]
    unfold World.cell?
    simp only[hw,hb]
    rw[<- Array.getElem?_toList];exact this
   ·obtain⟨_,_,h3⟩:=zOK (w:=w) (b:=b) (n:=l.length)
    refine⟨?_,?_,?_,h3⟩<;>(unfold World.freeze;split<;>rfl)
   ·obtain⟨h1,h2,_⟩:=zOK (w:=w) (b:=b) (n:=l.length)
    rw[hw]at h1 h2
    exact⟨Nat.le_of_eq h1.symm,λi _ hn=>h2 i λe=>hn (e ▸ hf)⟩
def zQK (sep:List UInt8):List (List UInt8)->List UInt8
 | []=>[]
 | x::xs=>x++(xs.map (sep ++ ·)).flatten
def total (l:List (List UInt8)):Nat:=l.flatten.length
theorem zQk {l:List (List UInt8)}{i:Nat}{x:List UInt8}(h:l[i]? = some x):total (l.take (i+1))=total (l.take i)+x.length:=by
 obtain⟨hlt,rfl⟩:=zAV.1 h
 unfold total
 rw[show l.take (i+1)=l.take i++[l[i]] by rw[zAG,zAj hlt];rfl,zBr];simp
theorem zRX {l:List (List UInt8)}{i:Nat}:total (l.take i)<=total l:=by
 unfold total
 conv=>rhs;rw[<- zBl i l,zBr,zAt]
 omega
theorem zVv {sep:List UInt8}{l:List (List UInt8)}:((l.map (sep ++ ·)).flatten).length=sep.length*l.length+total l:=by
 unfold total
 induction l with
 | nil=>simp
 | cons x l ih=>simp only[zA0,zA5,zAt,zAS,ih,Nat.mul_succ];omega
theorem zYV {sep:List UInt8}{l:List (List UInt8)}{i:Nat}{x:List UInt8}(h:l[i]? = some x):((l.take (i+1)).map (sep ++ ·)).flatten=(((l.take i).map (sep ++ ·)).flatten++sep)++x:=by
 obtain⟨hlt,rfl⟩:=zAV.1 h
 rw[show l.take (i+1)=l.take i++[l[i]] by rw[zAG,zAj hlt];rfl,zAF,zBr];simp
abbrev zRt (l:List (List UInt8)):List (List Value):=zHL (l.map str)
theorem zWi {l:List (List UInt8)}{i:Nat}{x:List UInt8}(h:l[i]? = some x):(zRt l)[i]? = some [str x]:=zN7 (by simp[h])
@[simp] theorem zOL {l:List (List UInt8)}:(zRt l).length=l.length:=by simp[zRt]
theorem zAgL {P:zA1}{H:zAx}{v:Value}{sep:List UInt8}{l:List (List UInt8)}(hv:SlE 1 P H v (zRt l))(hP:∀ b,P b->b<H.size)(hn:l.length<=1048576)(hs:sep.length<=1048576)(ht:total l<=1099511627776) :
  zAA prg zK8 [v,str sep] H λu H'=>u=str (zQK sep l)/\Keep zAK H H':=by
 apply zPJ
 unfold zPI
 have hlen:=hv.len
 rw[zOL]at hlen
 simp only[hlen,zAa,zAJ,zC8,zAl]
 match l,hv,hn,ht,hlen with
 | [],_,_,_,_=>rw[if_pos (by rfl)];exact⟨rfl,Keep.refl⟩
 | [x],hv,_,_,_ =>
  rw[if_neg (by simp),if_pos (by rfl)]
  obtain⟨b,o,hix,hpt,_⟩:=hv.at (i:=0) (x:=[str x]) rfl
  have hix:ixS 1 v (.int .i64 0)=some (Ptr b o):=hix .i64
  rw[hix,zAa,hpt.cell0 rfl,zAa]
  exact⟨by simp[zQK],Keep.refl⟩
 | x::y::l,hv,hn,ht,hlen =>
  generalize hL:x::y::l=L at *
  have hL2:2<=L.length:=by rw[<- hL];simp
  have hL0:L[0]? = some x:=by rw[<- hL];rfl
  have n0:((L.length:Int) == 0)=false:=by rw[beq_eq_false_iff_ne];omega
  have n1:((L.length:Int) == 1)=false:=by rw[beq_eq_false_iff_ne];omega
  rw[n0,if_neg (by decide),n1,if_neg (by decide)]
  have w1:IntKind.i64.wrap ((L.length:Int)-1)=((L.length-1:Nat):Int):=by rw[zCe]<;>omega
  have hq:(1:Int)<=Int.tdiv 9223372036854775807 ((L.length-1:Nat):Int)/\Int.tdiv 9223372036854775807 ((L.length-1:Nat):Int)<=9223372036854775807/\(sep.length:Int)<Int.tdiv 9223372036854775807 ((L.length-1:Nat):Int):=by
   rw[zCQ (by omega)]
   have h1:(8796093022207:Int)<=9223372036854775807 / ((L.length-1:Nat):Int):=by
    rw[Int.le_ediv_iff_mul_le (by omega)]
    have:((L.length-1:Nat):Int)<=1048576:=by omega
    omega
   have h2:9223372036854775807 / ((L.length-1:Nat):Int)<=9223372036854775807:=Int.ediv_le_self _ (by omega)
   omega
  have w2:IntKind.i64.wrap (Int.tdiv 9223372036854775807 ((L.length-1:Nat):Int))=Int.tdiv 9223372036854775807 ((L.length-1:Nat):Int):=by rw[zCe]<;>omega
  have w3:IntKind.i64.wrap ((sep.length:Int)*((L.length-1:Nat):Int))=((sep.length*(L.length-1):Nat):Int):=by
   have hb:sep.length*(L.length-1)<=1048576*1048576:=Nat.mul_le_mul hs (by omega)
   rw[zCe]<;>rw[<- Int.natCast_mul]<;>omega
  have hb:sep.length*(L.length-1)<=1099511627776:=zBh (Nat.mul_le_mul hs (show L.length-1<=1048576 by omega)) (by decide)
  have w4:IntKind.i64.wrap (0+((sep.length*(L.length-1):Nat):Int))=((sep.length*(L.length-1):Nat):Int):=by rw[zCe]<;>omega
  have hne:¬ (((L.length-1:Nat):Int)=0):=by omega
  have hng:¬ ((sep.length:Int)>=Int.tdiv 9223372036854775807 ((L.length-1:Nat):Int)):=by omega
  refine zOt (λx h=>x = .int .i64 ((sep.length*(L.length-1):Nat):Int)/\H=h) (λk hk=>?_) ?_
  ·simp only[zFu,zAa,zAJ,zC8,zAl,decide_eq_true_eq,zAcw,w1]
   by_cases hs0:(sep.length:Int) > 0
   ·rw[if_pos hs0]
    simp only[hlen,zAa,zAJ,zC8,zAl,decide_eq_true_eq,w1,if_neg hne,w2,if_neg hng,w3,w4]
    exact hk _ _ ⟨rfl,rfl⟩
   ·rw[if_neg hs0]
    have hs0':sep.length=0:=by omega
    exact hk _ _ ⟨by rw[hs0',Nat.zero_mul];rfl,rfl⟩
  ·rintro _ _ ⟨rfl,rfl⟩
   simp only[zAcx]
   refine zUY (λn i h=>∃ j:Nat,j<=L.length/\i = .int .i64 (j:Nat)/\n = .int .i64 ((sep.length*(L.length-1)+total (L.take j):Nat):Int)/\H=h) (λ_ i _=>match i with | .int _ i=>L.length-i.toNat|_=>0)
    ⟨0,zAz _,rfl,by simp[total],rfl⟩ ?_
   rintro _ _ _ ⟨j,hj,rfl,rfl,rfl⟩ k hk
   simp only[zAJ,zC8,zAa,zAl,decide_eq_true_eq,zAcw]
   have htj:=zRX (l:=L) (i:=j)
   by_cases hlt:(j:Int)<L.length
   ·rw[if_pos hlt]
    have hlt':j<L.length:=by omega
    have hg:L[j]? = some L[j]:=zAj hlt'
    obtain⟨b,o,hix,hpt,_⟩:=hv.at (zWi hg)
    have htj1:=zRX (l:=L) (i:=j+1)
    rw[zQk hg]at htj1
    have e1:IntKind.i64.wrap (9223372036854775807-((sep.length*(L.length-1)+total (L.take j):Nat):Int))=9223372036854775807-((sep.length*(L.length-1)+total (L.take j):Nat):Int):=by rw[zCe]<;>omega
    have e2:IntKind.i64.wrap (((sep.length*(L.length-1)+total (L.take j):Nat):Int)+(L[j].length:Int))=((sep.length*(L.length-1)+total (L.take (j+1)):Nat):Int):=by rw[zQk hg,zCe]<;>omega
    have e3:IntKind.i64.wrap ((j:Int)+1)=(j+1:Nat):=by rw[zCe]<;>omega
    simp only[hix,zAa,hpt.cell0 rfl,zFu,zAJ,zC8,e1,e2,e3,zAl,decide_eq_true_eq]
    rw[if_neg (by omega)]
    exact hk _ _ _ ⟨j+1,hlt',rfl,rfl,rfl⟩ (by show L.length-(j+1)<L.length-j;omega)
   ·rw[if_neg hlt]
    obtain rfl:j=L.length:=by omega
    rw[zBE]
    simp only[zXA,zBb,zBT]
    generalize hp:H.size=p at *
    generalize hH1:H.push (.cells #[.pointer none,.slice none 0 0] zBY (0,0))=H1
    have k1:Keep zAK H H1:=by rw[<- hH1];exact Keep.push
    have hs1:H1.size=p+1:=by rw[<- hH1];simp[hp]
    have hp1:H1[p]? = some (.cells #[.pointer none,.slice none 0 0] zBY (0,0)):=by rw[<- hH1,<- hp];exact zCj
    have hB:BAt (p < ·) p H1 []:=⟨Nat.lt_irrefl _,_,_,hp1,.inl rfl,.inl ⟨rfl,rfl⟩⟩
    refine zAI (zAjZ hB (by omega) ⟨_,hp1⟩ λb hb=>by omega) ?_
    rintro _ H2 ⟨rfl,hB2,k2⟩
    have k02:Keep (p <= ·) H H2:=(k1.mono λ_ _ h=>h.elim).trans (k2.mono λb _ h=>by rcases h with h|h<;>omega)
    obtain⟨b,o,hix,hpt,_⟩:=(hv.keep k02 λb hb hb'=>by have:=hP b hb;omega).at (zWi hL0)
    have hix:ixS 1 v (.int .i64 0)=some (Ptr b o):=hix .i64
    have hx0:x.length<=1099511627776:=by
     have:=zQk hL0
     have:=zRX (l:=L) (i:=0+1)
     omega
    simp only[hix,zAa,hpt.cell0 rfl]
    refine zAI (zIc hB2 (by simp;omega) λb hb=>by have:=k02.1;have:=k2.1;omega) ?_
    rintro _ H3 ⟨rfl,hB3,k3⟩
    have k03:Keep (p <= ·) H H3:=k02.trans (k3.mono λb _ h=>by rcases h with h|h<;>omega)
    obtain⟨u,hu,hsu⟩:=hv.cut (by rw[<- hL];simp[zRt,zHL]) (lo:=1) (hi:=L.length) (by omega) (by simp) (l:=some (.int .i64 1)) (r:=none) (by simp[bnd];omega) (λc hc=>by simp[bnd])
    have hdrop:((zRt L).take L.length).drop 1=zRt (L.drop 1):=by
     rw[zAr (by simp)];simp[zRt,zHL,List.map_drop]
    rw[hdrop]at hsu
    have hlu:=hsu.len
    rw[zOL]at hlu
    simp only[hu,zAa,hlu]
    have hD:L=x::L.drop 1:=by rw[<- hL];rfl
    have hDl:(L.drop 1).length=L.length-1:=by simp
    generalize L.drop 1=D at *
    have hjl:zQK sep L=x++(D.map (sep ++ ·)).flatten:=by rw[hD];rfl
    have htD:total L=x.length+total D:=by rw[hD];simp[total]
    refine zKj (λi h=>∃ j:Nat,j<=D.length/\i = .int .i64 (j:Nat)/\BAt (p < ·) p h (x++((D.take j).map (sep ++ ·)).flatten)/\Keep (p <= ·) H h/\p<h.size) (λi _=>match i with | .int _ i=>D.length-i.toNat|_=>0)
     ⟨0,zAz _,rfl,by simpa using hB3,k03,by have:=k2.1;have:=k3.1;omega⟩ ?_
    rintro _ h ⟨j,hj,rfl,hBj,kj,hpj⟩ k hk
    simp only[zAJ,zC8,zAa,zAl,decide_eq_true_eq]
    have hjt:((((D.take j).map (sep ++ ·)).flatten).length)=sep.length*(D.take j).length+total (D.take j):=zVv
    have htDj:=zRX (l:=D) (i:=j)
    have hmj:sep.length*(D.take j).length<=sep.length*(L.length-1):=Nat.mul_le_mul_left _ (by simp;omega)
    by_cases hlt:(j:Int)<D.length
    ·rw[if_pos hlt]
     have hlt':j<D.length:=by omega
     have hg:D[j]? = some D[j]:=zAj hlt'
     obtain⟨b,o,hix,hpt,_⟩:=(hsu.keep kj λb hb hb'=>by have:=hP b hb;omega).at (zWi hg)
     have htj1:=zRX (l:=D) (i:=j+1)
     rw[zQk hg]at htj1
     have e3:IntKind.i64.wrap ((j:Int)+1)=(j+1:Nat):=by rw[zCe]<;>omega
     simp only[hix,zAa,hpt.cell0 rfl,e3]
     refine zAI (zIc hBj (by simp only[zAt,hjt];omega) λb hb=>by omega) ?_
     rintro _ h1 ⟨rfl,hB4,k4⟩
     refine zAI (zIc hB4 (by simp only[zAt,hjt];omega) λb hb=>by have:=k4.1;omega) ?_
     rintro _ h2 ⟨rfl,hB5,k5⟩
     refine hk _ _ ⟨j+1,hlt',rfl,?_,(kj.trans (k4.mono λb _ h=>by rcases h with h|h<;>omega)).trans (k5.mono λb _ h=>by rcases h with h|h<;>omega),by have:=k4.1;have:=k5.1;omega⟩ (by show D.length-(j+1)<D.length-j;omega)
     rw[zYV hg]
     simpa only[zBg] using hB5
    ·rw[if_neg hlt]
     obtain rfl:j=D.length:=by omega
     rw[zBE]at hBj
     have hjD:((D.map (sep ++ ·)).flatten).length=sep.length*D.length+total D:=zVv
     have hmD:sep.length*D.length<=sep.length*(L.length-1):=by rw[hDl];exact zAh _
     refine zAI (zXB hBj (by simp only[zAt,hjD];omega)) ?_
     rintro _ h2 ⟨rfl,k5⟩
     rw[hjl]
     refine⟨by trivial,zBh kj.1 k5.1,λi hi _=>?_⟩
     rw[k5.2 i (by have:=kj.1;omega) (by omega),kj.2 i hi (by omega)]
def zDB (n:Nat):UInt8:=UInt8.ofNat (48+n)
def zUl (n:Nat):List UInt8:=if n<10 then [zDB n] else [zDB (n / 10),zDB (n % 10)]
theorem zAia {H:zAx}{n:Nat}(hn:n<100):zAA prg zGF [.int .i64 n] H λu H'=>u=str (zUl n)/\H=H':=by
 apply zKR
 unfold zIH
 simp only[zAJ,zC8,zAa,zAl,decide_eq_true_eq]
 have w1:IntKind.i64.wrap ((n:Int)+1)=(n+1:Nat):=by rw[zCe]<;>omega
 have w2:IntKind.i64.wrap ((n:Int)*2)=(n*2:Nat):=by rw[zCe]<;>omega
 have w3:IntKind.i64.wrap (((n*2:Nat):Int)+2)=(n*2+2:Nat):=by rw[zCe]<;>omega
 simp only[w1,w2,w3]
 by_cases h:(n:Int)<10
 ·rw[if_pos h]
  have hn':n<10:=by omega
  have:slT (str [48,49,50,51,52,53,54,55,56,57,97,98,99,100,101,102,103,104,105,106,107,108,109,110,111,112,113,114,115,116,117,118,119,120,121,122]) (some (.int .i64 n)) (some (.int .i64 (n+1:Nat)))=some (str (zUl n)):=by
   rw[zSE (lo:=n) (hi:=n+1) (by omega) (by simp;omega) (by simp[bnd];omega) (by simp[bnd];omega)]
   match n,hn' with
   | 0,_=>rfl|1,_=>rfl|2,_=>rfl|3,_=>rfl|4,_=>rfl
   | 5,_=>rfl|6,_=>rfl|7,_=>rfl|8,_=>rfl|9,_=>rfl
  have this':slT (.string ⟨#[48,49,50,51,52,53,54,55,56,57,97,98,99,100,101,102,103,104,105,106,107,108,109,110,111,112,113,114,115,116,117,118,119,120,121,122]⟩) (some (.int .i64 n)) (some (.int .i64 (n+1:Nat)))=some (str (zUl n)):=this
  rw[this',zAa]
  exact⟨by trivial,by trivial⟩
 ·rw[if_neg h]
  have hn':¬ n<10:=by omega
  generalize hs:(⟨#[48,48,48,49,48,50,48,51,48,52,48,53,48,54,48,55,48,56,48,57,49,48,49,49,49,50,49,51,49,52,49,53,49,54,49,55,49,56,49,57,50,48,50,49,50,50,50,51,50,52,50,53,50,54,50,55,50,56,50,57,51,48,51,49,51,50,51,51,51,52,51,53,51,54,51,55,51,56,51,57,52,48,52,49,52,50,52,51,52,52,52,53,52,54,52,55,52,56,52,57,53,48,53,49,53,50,53,51,53,52,53,53,53,54,53,55,53,56,53,57,54,48,54,49,54,50,54,51,54,52,54,53,54,54,54,55,54,56,54,57,55,48,55,49,55,50,55,51,55,52,55,53,55,54,55,55,55,56,55,57,56,48,56,49,56,50,56,51,56,52,56,53,56,54,56,55,56,56,56,57,57,48,57,49,57,50,57,51,57,52,57,53,57,54,57,55,57,56,57,57]⟩:ByteArray)=S
  have hS:S=⟨((List.range 100).flatMap λi=>[zDB (i / 10),zDB (i % 10)]).toArray⟩:=by rw[<- hs];rfl
  have hlen:((List.range 100).flatMap λi=>[zDB (i / 10),zDB (i % 10)]).length=200:=by decide
  have:slT (str ((List.range 100).flatMap λi=>[zDB (i / 10),zDB (i % 10)])) (some (.int .i64 (n*2:Nat))) (some (.int .i64 (n*2+2:Nat)))=some (str (zUl n)):=by
   rw[zSE (lo:=n*2) (hi:=n*2+2) (by omega) (by omega) (by simp[bnd];omega) (by rw[hlen];simp[bnd];omega)]
   congr 1
   have key:∀ m,m<100->((((List.range 100).flatMap λi=>[zDB (i / 10),zDB (i % 10)]).take (m*2+2)).drop (m*2))=[zDB (m / 10),zDB (m % 10)]:=by decide
   rw[key n hn]
   unfold zUl;rw[if_neg hn']
  rw[hS,this,zAa]
  exact⟨by trivial,by trivial⟩
structure Ver where
 p:List Int
 pre:List UInt8
structure Item where
 name:List UInt8
 ver:Ver
 sum:List UInt8
def zEm (v:Ver):List Value:=zCm .i64 v.p++[str v.pre]
def zFi (x:Item):List Value:=str x.name::(zEm x.ver++zBs x.sum)
structure Ver.wf (v:Ver):Prop where
 p3:v.p.length=3
 pre:v.pre.length<=9223372036854775807
structure Item.wf (x:Item):Prop where
 ver:x.ver.wf
 sum:x.sum.length=32
 name:x.name.length<=9223372036854775807
theorem zDH {v:Ver}(h:v.wf):(zEm v).length=4:=by simp[zEm,h.p3]
theorem zOl {x:Item}(h:x.wf):(zFi x).length=37:=by simp[zFi,zDH h.ver,h.sum]
theorem zLa {v:Ver}:∀ c∈zEm v,c.oneCell'=true:=by
 intro c hc
 simp only[zEm,zAp,zAD]at hc
 rcases hc with hc|rfl
 ·exact zSJ c hc
 ·rfl
theorem zXC {x:Item}:∀ c∈zFi x,c.oneCell'=true:=by
 intro c hc
 simp only[zFi,zAs,zAp]at hc
 rcases hc with rfl|hc|hc
 ·rfl
 ·exact zLa c hc
 ·exact bcells_one c hc
theorem zVw {l:List Value}(h:∀ c∈l,c.oneCell'=true):l.toArray.all (·.oneCell')=true:=by
 rw[zBA];intro v hv;exact h v (by simpa using hv)
def zNB (n:Int):Bool:=!(decide (n<0) || decide (n > 999999))
def zAcP (l:List UInt8):Bool:=decide (l.length<=16)&&decide (∀ x∈l,zU1.contains x=true)
def zG5 (v:Ver):Bool:=v.p.all zNB&&zAcP v.pre
theorem zQl {H:zAx}{v:Ver}(hv:v.wf):zAA prg zDO [.agg (zEm v).toArray] H λu H'=>u = .bool (zG5 v)/\Keep zAK H H':=by
 apply zLh
 unfold zJm
 obtain⟨p,pre⟩:=v
 obtain⟨hp,hpre⟩:=hv
 simp only at hp hpre
 match p,hp with
 | [a,b,c],_ =>
  simp only[zB8,zBb]
  generalize hH1:H.push (.cells (zEm ⟨[a,b,c],pre⟩).toArray zAO (0,0))=H1
  have k1:Keep zAK H H1:=by rw[<- hH1];exact Keep.push
  have hq:H1[H.size]? = some (.cells (zEm ⟨[a,b,c],pre⟩).toArray zAO (0,0)):=by rw[<- hH1];exact zCj
  have hld:ldN 3 H1 (Ptr H.size 0)=some (.agg (zCm .i64 [a,b,c]).toArray):=ldN_mid (A:=[]) (B:=zCm .i64 [a,b,c]) (C:=[str pre]) (by rw[zAY];exact hq) rfl rfl
  have d3:ld1 H1 (Ptr H.size 3)=some (str pre):=zSp hq rfl
  simp only[zBf,zAa,zAi,hld,zBT]
  refine zKj (λu h=>∃ i:Nat,i<=3/\u = .int .i64 (i:Nat)/\([a,b,c].take i).all zNB=true/\H1=h) (λu _=>match u with | .int _ t=>3-t.toNat|_=>0) ⟨0,by omega,rfl,rfl,rfl⟩ ?_
  rintro _ _ ⟨i,hi,rfl,hall,rfl⟩ k hk
  simp only[zAJ,zC8,zAa,zAl,decide_eq_true_eq]
  by_cases hlt:(i:Int)<3
  ·rw[if_pos hlt]
   have hlt':i<3:=by omega
   obtain⟨x,hx⟩:∃ x,[a,b,c][i]? = some x:=⟨[a,b,c][i],zAj (by simpa using hlt')⟩
   have hix:ixV 3 false 1 (.agg (zCm .i64 [a,b,c]).toArray) (.int .i64 (i:Nat))=some (.int .i64 x):=by
    simp only[ixV];rw[if_pos ⟨by omega,by omega⟩]
    simpa using zIb (k := .i64) hx
   have hinc:IntKind.i64.wrap ((i:Int)+1)=(i+1:Nat):=by rw[zCe]<;>omega
   have htk:([a,b,c].take (i+1)).all zNB=(zNB x):=by
    rw[zAG,hx,zCO,hall];simp
   simp only[hix,zAa,zAJ,zC8,zAQ,zAv,hinc]
   have fin:(if zNB x=true then k (.int .i64 (i+1:Nat)) H1 else (Value.bool false = .bool (zG5 ⟨[a,b,c],pre⟩)/\Keep zAK H H1)):=by
    by_cases hox:zNB x=true
    ·rw[if_pos hox]
     exact hk _ _ ⟨i+1,hlt',rfl,by rw[htk,hox],rfl⟩ (by show 3-(i+1)<3-i;omega)
    ·rw[if_neg hox]
     refine⟨?_,k1⟩
     unfold zG5
     have:[a,b,c].all zNB=false:=by
      rw[zCt]
      exact⟨x,zAC hx,hox⟩
     rw[this];rfl
   unfold zNB at fin
   by_cases h1:x<0
   ·simpa [h1] using fin
   ·by_cases h2:x > 999999
    ·simpa [h1,h2] using fin
    ·simpa [h1,h2] using fin
  ·rw[if_neg hlt]
   obtain rfl:i=3:=by omega
   have hall:[a,b,c].all zNB=true:=hall
   simp only[d3,zAa,zFu,zAJ,zC8,zAQ,decide_eq_true_eq]
   by_cases h16:(pre.length:Int)<=16
   ·have h16':pre.length<=16:=by omega
    simp only[h16,decide_true,if_true]
    refine zAI (zAcO (cs:=zU1) (by decide) (by decide) (by decide) hpre) ?_
    rintro _ h2 ⟨rfl,k2⟩
    have e3:zTt .eql ⟨(zOk zU1 (zNU zU1 pre)).toArray⟩ ⟨#[]⟩=some (.bool (decide (zOk zU1 (zNU zU1 pre)=[]))):=zQ7 (b:=[])
    have e4:decide (zOk zU1 (zNU zU1 pre)=[])=decide (∀ y∈pre,zU1.contains y=true):=by rw[decide_eq_decide];exact zZ2
    simp only[zGf,e3,e4,zAa,zAv,if_true]
    refine⟨?_,k1.trans k2⟩
    unfold zG5 zAcP
    rw[hall,decide_eq_true h16'];simp
   ·have h16':¬ pre.length<=16:=by omega
    simp only[h16,decide_false,zAb,if_false,zAv,zAa]
    refine⟨?_,k1⟩
    unfold zG5 zAcP
    rw[decide_eq_false h16'];simp
def Items (P:zA1)(H:zAx)(v:Value)(xs:List Item):Prop:=SlE 37 P H v (xs.map zFi)/\∀ x∈xs,x.wf
theorem Items.keep {P S:zA1}{H H':zAx}{v:Value}{xs:List Item}(h:Items P H v xs)(k:Keep S H H')(hs:∀ b,P b->¬ S b):Items P H' v xs:=⟨h.1.keep k hs,h.2⟩
theorem Items.len {P:zA1}{H:zAx}{v:Value}{xs:List Item}(h:Items P H v xs):lenV v=some (.int .i64 xs.length):=by have:=h.1.len;simpa using this
theorem Items.at {P:zA1}{H:zAx}{v:Value}{xs:List Item}(h:Items P H v xs){i:Nat}{x:Item}(hi:xs[i]? = some x):x.wf/\∃ b o,(∀ k,ixS 37 v (.int k i)=some (Ptr b o))/\Pt H b o (zFi x)/\P b :=
 ⟨h.2 x (zAC hi),h.1.at (by simp[hi])⟩
def zXD (a b:List UInt8):Bool:=Op.bytesLess a b
theorem zAcQ:∃ z:List Value,zBI prg zCh=some z.toArray/\z.length=37:=by
 have h:(match zBI prg zCh with|some z=>z.size == 37|none=>false)=true:=by kernel_rfl
 split at h
 ·rename_i z hz;exact⟨z.toList,by simp[hz],by simpa using h⟩
 ·cases h
theorem zWj {a b:List UInt8}:zTt .geq ⟨a.toArray⟩ ⟨b.toArray⟩=some (.bool (!zXD a b)):=by simp only[zTt,zLg];rfl
def zHj (n:Nat):List UInt8:=if n<10 then [zDB n] else zHj (n / 10)++[zDB (n % 10)]
theorem zAbf {n:Nat}(h:n<100):zUl n=zHj n:=by
 unfold zUl
 rw[zHj]
 split
 ·rfl
 ·rw[zHj,if_pos (by omega)];rfl
theorem zUm {n:Nat}(hn:n<100){H:zAx}:zAA prg zFz [.int .i64 n] H λu H'=>u=str (zHj n)/\Keep zAK H H':=by
 apply zH0
 unfold zJ2
 refine zAI (R:=λu H'=>u=str (zHj n)/\Keep zAK H H') ?_ λu h hR=>hR
 apply zEW
 unfold zE7
 refine zAI (R:=λu H'=>u=str (zHj n)/\Keep zAK H H') ?_ λu h hR=>hR
 apply zD7
 unfold zD3
 have e1:((10:Int) == 10)=true:=rfl
 have e2:(0:Int)<=n:=by omega
 have e3:(n:Int)<100:=by omega
 simp only[zAJ,zC8,zAa,zAl,e1,if_true,zBT,zAQ,e2,e3,decide_true,zAv]
 refine zAI (zAia hn) ?_
 rintro _ _ ⟨rfl,rfl⟩
 exact⟨by rw[zAbf hn],Keep.refl⟩
def zHO (v:Ver):List UInt8:=if zG5 v then zQK [46] (v.p.map λn=>zHj n.toNat)++(if v.pre=[] then [] else 45::v.pre) else []
theorem zAlS {s:ByteArray}:zF6 prg zBJ 1 [(0,.string s)]=some #[.string s]:=by kernel_rfl
theorem zOM {n:Nat}(h:n<1000000):(zHj n).length<=6:=by
 rw[zHj];split; · simp
 rw[zHj];split; · simp
 rw[zHj];split; · simp
 rw[zHj];split; · simp
 rw[zHj];split; · simp
 rw[zHj];split; · simp
 omega
theorem zJw {n:Int}(h:zNB n=true):0<=n/\n<=999999:=by
 simp only[zNB,zBt,Bool.or_eq_false_iff,decide_eq_false_iff_not]at h;omega
theorem zAib {H:zAx}{v:Ver}(hv:v.wf)(hI:∀ n∈v.p,0<=n->n<=999999->∀ h,Keep (H.size <= ·) H h->zAA prg zFz [.int .i64 n] h λu H'=>u=str (zHj n.toNat)/\Keep zAK h H'):zAA prg zDD [.agg (zEm v).toArray] H λu H'=>u=str (zHO v)/\Keep zAK H H':=by
 apply zLO
 unfold zJ1
 simp only[zB8,zBb]
 generalize hH1:H.push (.cells (zEm v).toArray zAO (0,0))=H1
 have k1:Keep zAK H H1:=by rw[<- hH1];exact Keep.push
 have hq1:H1[H.size]? = some (.cells (zEm v).toArray zAO (0,0)):=by rw[<- hH1];exact zCj
 have hld:ldN 4 H1 (Ptr H.size 0)=some (.agg (zEm v).toArray):=ldN_mid (A:=[]) (B:=zEm v) (C:=[]) (by rw[zAY,zAP];exact hq1) rfl (zDH hv).symm
 simp only[hld,zAa]
 refine zAI (zQl hv) ?_
 rintro _ H2 ⟨rfl,k2⟩
 have hq2:=k2.at hq1 id
 simp only[zA7,zAa,zAl]
 by_cases hok:zG5 v=true
 ·rw[if_neg (by rw[hok];decide)]
  have hparts:∀ n∈v.p,0<=n/\n<=999999:=λn hn=>zJw (zAw.1 (by unfold zG5 at hok;simp only[zAk]at hok;exact hok.1) n hn)
  have hpre16:v.pre.length<=16:=by
   unfold zG5 zAcP at hok;simp only[zAk,decide_eq_true_eq]at hok;exact hok.2.1
  have hld3:ldN 3 H2 (Ptr H.size 0)=some (.agg (zCm .i64 v.p).toArray):=ldN_mid (A:=[]) (B:=zCm .i64 v.p) (C:=[str v.pre]) (by rw[zAY];exact hq2) rfl (by simp[hv.p3])
  simp only[zBf,zAa,zAi,hld3]
  refine zMk (λu _ h=>BufE 1 (H2.size <= ·) h u (zRt (v.p.map λn=>zHj n.toNat))/\Keep zAK H2 h) (λk hk=>?_) ?_
  ·refine zUY (λu i h=>∃ j:Nat,j<=3/\i = .int .i64 (j:Nat)/\BufE 1 (H2.size <= ·) h u (zRt ((v.p.take j).map λn=>zHj n.toNat))/\Keep (H2.size <= ·) H2 h) (λ_ i _=>match i with | .int _ t=>3-t.toNat|_=>0)
    ⟨0,by omega,rfl,BufE.nil,Keep.refl⟩ ?_
   rintro u _ h ⟨j,hj,rfl,hu,kh⟩ k' hk'
   simp only[zAJ,zC8,zAa,zAl,decide_eq_true_eq]
   by_cases hlt:(j:Int)<3
   ·rw[if_pos hlt]
    have hlt':j<v.p.length:=by rw[hv.p3];omega
    have hg:v.p[j]? = some v.p[j]:=zAj hlt'
    have hm:v.p[j]∈v.p:=zAH _
    have hix:ixV 3 false 1 (.agg (zCm .i64 v.p).toArray) (.int .i64 (j:Nat))=some (.int .i64 v.p[j]):=by
     simp only[ixV];rw[if_pos ⟨by omega,by omega⟩]
     simpa using zIb (k := .i64) hg
    have hinc:IntKind.i64.wrap ((j:Int)+1)=(j+1:Nat):=by rw[zCe]<;>omega
    obtain⟨n0,n1⟩:=hparts _ hm
    simp only[hix,zAa,hinc]
    refine zAI (hI _ hm n0 n1 h ((k1.mono λ_ _ h=>h.elim).trans ((k2.mono λ_ _ h=>h.elim).trans (kh.mono λb _ hb=>zBh (zBh k1.1 k2.1) hb)))) ?_
    rintro _ h3 ⟨rfl,k3⟩
    simp only[zAlS,zCo]
    have kp:Keep zAK h3 (h3.push (.cells #[str (zHj v.p[j].toNat)] zBJ (0,0))):=Keep.push
    have hx:SlE 1 (· = h3.size) (h3.push (.cells #[str (zHj v.p[j].toNat)] zBJ (0,0))) (.slice (some ⟨h3.size,0,none⟩) 1 1) (zRt [zHj v.p[j].toNat]) :=
     ⟨⟨_,1,rfl,zAh _,.inr ⟨h3.size,0,rfl,rfl,by rw[zMw];exact Pt.of zCj⟩⟩,zQi,zPH λv hv=>by simp at hv;subst hv;rfl⟩
    refine((hu.keep k3 λ_ _=>id).keep kp λ_ _=>id).app hx (by omega) (by simp;omega) (by have:=kh.1;have:=k3.1;simp;omega) λx h4 hx4 k4=>?_
    refine hk' _ _ _ ⟨j+1,by omega,rfl,?_,kh.trans ((k3.mono λ_ _ h=>h.elim).trans ((kp.mono λ_ _ h=>h.elim).trans k4))⟩ (by show 3-(j+1)<3-j;omega)
    have:zRt ((v.p.take (j+1)).map λn=>zHj n.toNat)=zRt ((v.p.take j).map λn=>zHj n.toNat)++zRt [zHj v.p[j].toNat]:=by
     rw[show v.p.take (j+1)=v.p.take j++[v.p[j]] by rw[zAG,hg];rfl,zAF];simp[zRt,zHL]
    rw[this];exact hx4
   ·rw[if_neg hlt]
    obtain rfl:j=3:=by omega
    rw[zAr (by rw[hv.p3];omega)]at hu
    exact hk _ _ _ ⟨hu,kh.1,λi hi _=>kh.2 i hi (by omega)⟩
  ·rintro u _ h3 ⟨hu,k3⟩
   have hsl:=hu.sl
   have htot:total (v.p.map λn=>zHj n.toNat)<=18:=by
    obtain⟨p,pre⟩:=v
    have hp3:=hv.p3
    simp only at hp3 hparts ⊢
    match p,hp3 with
    | [a,b,c],_ =>
     have l1:=zOM (n:=a.toNat) (by have:=hparts a (by simp);omega)
     have l2:=zOM (n:=b.toNat) (by have:=hparts b (by simp);omega)
     have l3:=zOM (n:=c.toNat) (by have:=hparts c (by simp);omega)
     simp[total];omega
   refine zAI (zAgL (P:=λb=>H2.size<=b/\b<h3.size) (sep:=[46]) (l:=v.p.map λn=>zHj n.toNat) ?_ (λb hb=>hb.2) (by simp[hv.p3]) (by simp) (by omega)) ?_
   ·refine⟨?_,hsl.el,hsl.one⟩
    obtain⟨a,c,hve,hc,hx⟩:=hsl.ex
    exact⟨a,c,hve,hc,hx.imp id λ⟨b,o,e,hb,hpt⟩=>⟨b,o,e,⟨hb,hpt.lt⟩,hpt⟩⟩
   rintro _ h4 ⟨rfl,k4⟩
   have hq4:=k4.at (k3.at hq2 id) id
   have d3:ld1 h4 (Ptr H.size 3)=some (str v.pre):=zSp hq4 (by
    unfold zEm
    rw[zBe (by simp[hv.p3])]
    simp[hv.p3])
   have kk:=k1.trans (k2.trans (k3.trans k4))
   have ene:zTt .neq ⟨v.pre.toArray⟩ ⟨#[]⟩=some (.bool (!decide (v.pre=[]))):=zYM (b:=[])
   have hjl:(zQK [46] (v.p.map λn=>zHj n.toNat)).length<=100:=by
    have h3l:(v.p.map λn=>zHj n.toNat).length=3:=by simp[hv.p3]
    generalize (v.p.map λn=>zHj n.toNat)=L at *
    match L,h3l with
    | [a,b,c],_=>simp[zQK,total]at *;omega
   simp only[d3,zAa,zGf,ene,zBT,zAl]
   by_cases hpe:v.pre=[]
   ·rw[if_neg (by simp[hpe])]
    refine⟨?_,kk⟩
    unfold zHO
    rw[hok,hpe];simp
   ·rw[if_pos (by simp[hpe])]
    have ea:zTt .add ⟨#[45]⟩ ⟨v.pre.toArray⟩=some (str ([45]++v.pre)):=zWb (a:=[45]) (by simp;omega)
    rw[ea,zAa]
    have ea2:zAB .no .add (str (zQK [46] (v.p.map λn=>zHj n.toNat))) (str ([45]++v.pre))=some (str (zQK [46] (v.p.map λn=>zHj n.toNat)++([45]++v.pre))):=by
     rw[zGf];exact zWb (by simp;omega)
    rw[ea2,zAa]
    refine⟨?_,kk⟩
    unfold zHO
    rw[hok];simp[hpe]
 ·rw[if_pos (by rw[eq_false_of_ne_true hok];rfl)]
  refine⟨?_,k1.trans k2⟩
  unfold zHO
  rw[if_neg hok]
theorem zON {n:Int}(h1:0<=n)(h2:n<4294967296):IntKind.u32.wrap n=n:=by
 simp only[IntKind.wrap,IntKind.bits,IntKind.signed];simp;omega
theorem zWk {n:Int}(h1:0<=n)(h2:n<18446744073709551616):IntKind.u64.wrap n=n:=by
 simp only[IntKind.wrap,IntKind.bits,IntKind.signed];simp;omega
theorem zAfb {x:Nat}:zAB .no .rem (.int .u32 (x:Nat)) (.int .u32 100)=some (.int .u32 ((x % 100:Nat):Int)):=by
 rw[zAJ];simp only[zC8];rw[if_neg (by decide),Int.tmod_eq_emod_of_nonneg (by omega)];rfl
theorem zAj1 {x:Nat}:zAB .no .rem (.int .u32 (x:Nat)) (.int .u32 10000)=some (.int .u32 ((x % 10000:Nat):Int)):=by
 rw[zAJ];simp only[zC8];rw[if_neg (by decide),Int.tmod_eq_emod_of_nonneg (by omega)];rfl
theorem zAfc {x:Nat}(h:x<4294967296):zAB .no .quo (.int .u32 (x:Nat)) (.int .u32 100)=some (.int .u32 ((x / 100:Nat):Int)):=by
 rw[zAJ];simp only[zC8];rw[if_neg (by decide),zCQ (by omega),zON (by omega) (by omega)];rfl
theorem zAj2 {x:Nat}(h:x<4294967296):zAB .no .quo (.int .u32 (x:Nat)) (.int .u32 10000)=some (.int .u32 ((x / 10000:Nat):Int)):=by
 rw[zAJ];simp only[zC8];rw[if_neg (by decide),zCQ (by omega),zON (by omega) (by omega)];rfl
theorem m2 {x:Nat}(h:x<1000000):zAB .no .mul (.int .u32 (x:Nat)) (.int .u32 2)=some (.int .u32 ((x*2:Nat):Int)):=by
 rw[zAJ];simp only[zC8];rw[zON (by omega) (by omega)];rfl
theorem p1 {x:Nat}(h:x<1000000):zAB .no .add (.int .u32 (x:Nat)) (.int .u32 1)=some (.int .u32 ((x+1:Nat):Int)):=by
 rw[zAJ];simp only[zC8];rw[zON (by omega) (by omega)];rfl
def zHF:Nat->Nat->List UInt8
 | 0,_=>[]
 | n+1,u=>zHF n (u / 10)++[zDB (u % 10)]
theorem zWl:∀ (n u:Nat),10 ^ n<=u->u<10 ^ (n+1)->zHj u=zHF (n+1) u
 | 0,u,h1,h2=>by rw[zHj,if_pos (by omega)];simp[zHF,Nat.mod_eq_of_lt (show u<10 by omega)]
 | n+1,u,h1,h2=>by
  have e:10 ^ (n+1)=10 ^ n*10:=Nat.pow_succ ..
  have e2:10 ^ (n+1+1)=10 ^ (n+1)*10:=Nat.pow_succ ..
  have hp:0<10 ^ n:=Nat.pos_of_ne_zero (by simp)
  rw[zHj,if_neg (by omega),zWl n (u / 10) (by omega) (by omega)]
  rfl
def SMl:List UInt8:=(List.range 100).flatMap λi=>[zDB (i / 10),zDB (i % 10)]
def SM:ByteArray:=⟨#[48,48,48,49,48,50,48,51,48,52,48,53,48,54,48,55,48,56,48,57,49,48,49,49,49,50,49,51,49,52,49,53,49,54,49,55,49,56,49,57,50,48,50,49,50,50,50,51,50,52,50,53,50,54,50,55,50,56,50,57,51,48,51,49,51,50,51,51,51,52,51,53,51,54,51,55,51,56,51,57,52,48,52,49,52,50,52,51,52,52,52,53,52,54,52,55,52,56,52,57,53,48,53,49,53,50,53,51,53,52,53,53,53,54,53,55,53,56,53,57,54,48,54,49,54,50,54,51,54,52,54,53,54,54,54,55,54,56,54,57,55,48,55,49,55,50,55,51,55,52,55,53,55,54,55,55,55,56,55,57,56,48,56,49,56,50,56,51,56,52,56,53,56,54,56,55,56,56,56,57,57,48,57,49,57,50,57,51,57,52,57,53,57,54,57,55,57,56,57,57]⟩
theorem zAj3:SM=⟨SMl.toArray⟩:=rfl
theorem zAgM:∀ m,m<100->SMl[m*2]? = some (zDB (m / 10))/\SMl[m*2+1]? = some (zDB (m % 10)):=by decide
theorem sm0 {m:Nat}(h:m<100):ixT (.string SM) (.int .u32 ((m*2:Nat):Int))=some (.int .u8 (zDB (m / 10)).toNat):=by rw[zAj3];exact zLN (zAgM m h).1
theorem sm1 {m:Nat}(h:m<100):ixT (.string SM) (.int .u32 ((m*2+1:Nat):Int))=some (.int .u8 (zDB (m % 10)).toNat):=by rw[zAj3];exact zLN (zAgM m h).2
theorem zAcR {n:Nat}(h:n<10):(zDB n).toNat=48+n:=by
 unfold zDB;rw[UInt8.toNat_ofNat'];omega
theorem zKf {b o n c:Nat}{k:IntKind}{i:Nat}(h:i<n):ixS 1 (.slice (some ⟨b,o,none⟩) n c) (.int k i)=some (Ptr b (o+i)):=by
 simp only[ixS];rw[if_pos ⟨by omega,by omega⟩];simp
theorem zJx {H:zAx}{b i:Nat}{cs:List Value}{T:TypeId}(h:H[b]? = some (.cells cs.toArray T (0,0)))(d:UInt8)(hi:i<cs.length):st1 H (Ptr b i) (.int .u8 d.toNat)=some (H.setIfInBounds b (.cells (cs.set i (.int .u8 d.toNat)).toArray T (0,0))):=zYt h hi rfl
theorem zSM {x:Nat}(h:x<10):IntKind.u8.wrap (IntKind.u32.wrap (48+(x:Int)))=(zDB x).toNat:=by
 rw[zON (by omega) (by omega),zAcE (by omega) (by omega),zAcR h];omega
theorem zAbg {H:zAx}{q nd u:Nat}{cs:List Value}{T:TypeId}(hq:H[q]? = some (.cells cs.toArray T (0,0)))(hl:cs.length=24)(h3:3<=nd)(h6:nd<=6)(hu:u<10 ^ nd) :
  zAA prg zDP [.slice (some ⟨q,1,none⟩) nd 23,.int .u64 (u:Nat)] H λ_ H'=>∃ cs':List Value,H'[q]? = some (.cells cs'.toArray T (0,0))/\cs'.length=24/\(cs'.drop 1).take nd=zBs (zHF nd u)/\Keep (· = q) H H':=by
 apply zE8
 unfold zEF
 have hum:u<1000000:=zAM hu (zBL (by omega) h6)
 refine zAa.2 ?_
 refine zMk (λx n h=>x = .int .u64 (u:Nat)/\n = .int .i64 (nd:Nat)/\H=h) (λk hk=>?_) ?_
 ·refine zUY (λx n h=>x = .int .u64 (u:Nat)/\n = .int .i64 (nd:Nat)/\H=h) (λ_ _ _=>0) ⟨rfl,rfl,rfl⟩ ?_
  rintro _ _ _ ⟨rfl,rfl,rfl⟩ k' _
  simp only[zAJ (op := .geq),zC8,zAa,zAl,decide_eq_true_eq]
  rw[if_neg (by omega)]
  exact hk _ _ _ ⟨rfl,rfl,rfl⟩
 rintro _ _ _ ⟨rfl,rfl,rfl⟩
 have hcv:IntKind.u32.wrap (u:Int)=(u:Nat):=zON (by omega) (by omega)
 simp only[zFH,hcv,zAa]
 change J2 (λk13=>_) _
 match cs,hl with
 | [c0,c1,c2,c3,c4,c5,c6,c7,c8,c9,c10,c11,c12,c13,c14,c15,c16,c17,c18,c19,c20,c21,c22,c23],_ =>
 have hs:nd=3\/nd=4\/nd=5\/nd=6:=by omega
 have w:∀ a b:Nat,b<=a->a<=100->IntKind.i64.wrap ((a:Int)-(b:Int))=((a-b:Nat):Int):=λa b h1 h2=>by rw[zCe]<;>omega
 rcases hs with rfl|rfl|rfl|rfl
 ·refine zMk (λn x h=>n = .int .i64 (3:Nat)/\x = .int .u32 (u:Nat)/\H=h) (λk hk=>?_) ?_
  ·simp only[zAJ (op := .geq),zC8,zAa,zAl,decide_eq_true_eq]
   rw[if_neg (by omega)]
   exact hk _ _ _ ⟨rfl,rfl,rfl⟩
  rintro _ _ _ ⟨rfl,rfl,rfl⟩
  refine zMk (λn x h=>n = .int .i64 (1:Nat)/\x = .int .u32 ((u / 100:Nat):Int)/\h[q]? = some (.cells [c0,c1,.int .u8 (zDB (u % 100 / 10)).toNat,.int .u8 (zDB (u % 100 % 10)).toNat,c4,c5,c6,c7,c8,c9,c10,c11,c12,c13,c14,c15,c16,c17,c18,c19,c20,c21,c22,c23].toArray T (0,0))/\Keep (· = q) H h) (λk hk=>?_) ?_
  ·simp only[zAJ (op := .geq),zC8,zAa,zAl,decide_eq_true_eq]
   rw[if_pos (by omega)]
   simp only[zAfb,zAa,m2 (show u % 100<1000000 by omega),zAfc (show u<4294967296 by omega),p1 (show u % 100*2<1000000 by omega)]
   have e1:zAB .no .sub (.int .i64 (3:Nat)) (.int .i64 1)=some (.int .i64 (2:Nat)):=rfl
   have e2:zAB .no .sub (.int .i64 (3:Nat)) (.int .i64 2)=some (.int .i64 (1:Nat)):=rfl
   rw[e1,zAa,e2,zAa]
   have s1:=sm1 (m:=u % 100) (by omega)
   have s0:=sm0 (m:=u % 100) (by omega)
   unfold SM at s1 s0
   rw[s1,zAa,s0,zAa,zKf (by omega),zAa,zJx hq _ (by simp),zAW,zKf (by omega),zAa,zJx (zBm hq) _ (by simp),zAW,zAa]
   refine hk _ _ _ ⟨rfl,rfl,?_,(Keep.set (S:=(· = q)) rfl).trans (Keep.set rfl)⟩
   rw[zBm (zBm hq)];rfl
  rintro _ _ h ⟨rfl,rfl,hq2,k2⟩
  simp only[zAJ (op := .gtr),zC8,zAa,zAl,decide_eq_true_eq]
  rw[if_pos (by omega)]
  have hlt:u / 100<10:=by omega
  simp only[zAJ (op := .add),zC8,zAa,zFH,zSM hlt]
  have ei:ixS 1 (.slice (some ⟨q,1,none⟩) 3 23) (.int .i64 0)=some (Ptr q 1):=rfl
  rw[ei,zAa,zJx hq2 _ (by simp),zAW]
  refine⟨_,zBm hq2,rfl,?_,k2.trans (Keep.set rfl)⟩
  have p:zHF 3 u=[zDB (u / 10 / 10 % 10),zDB (u / 10 % 10),zDB (u % 10)]:=rfl
  rw[p,show u / 10 / 10 % 10=u / 100 by omega,show u / 10 % 10=u % 100 / 10 by omega,show u % 10=u % 100 % 10 by omega]
  rfl
 ·refine zMk (λn x h=>n = .int .i64 (0:Nat)/\x = .int .u32 ((u / 10000:Nat):Int)/\h[q]? = some (.cells [c0,.int .u8 (zDB (u % 10000 / 100 / 10)).toNat,.int .u8 (zDB (u % 10000 / 100 % 10)).toNat,.int .u8 (zDB (u % 10000 % 100 / 10)).toNat,.int .u8 (zDB (u % 10000 % 100 % 10)).toNat,c5,c6,c7,c8,c9,c10,c11,c12,c13,c14,c15,c16,c17,c18,c19,c20,c21,c22,c23].toArray T (0,0))/\Keep (· = q) H h) (λk hk=>?_) ?_
  ·simp only[zAJ (op := .geq),zC8,zAa,zAl,decide_eq_true_eq]
   rw[if_pos (by omega)]
   simp only[zAj1,zAj2 (show u<4294967296 by omega),zAfc (show u % 10000<4294967296 by omega),zAfb,m2 (show u % 10000 / 100<1000000 by omega),m2 (show u % 10000 % 100<1000000 by omega),zAa,p1 (show u % 10000 % 100*2<1000000 by omega),p1 (show u % 10000 / 100*2<1000000 by omega)]
   have e1:zAB .no .sub (.int .i64 (4:Nat)) (.int .i64 1)=some (.int .i64 (3:Nat)):=rfl
   have e2:zAB .no .sub (.int .i64 (4:Nat)) (.int .i64 2)=some (.int .i64 (2:Nat)):=rfl
   rw[e1,zAa,e2,zAa]
   have s1:=sm1 (m:=u % 10000 % 100) (by omega)
   have s0:=sm0 (m:=u % 10000 % 100) (by omega)
   have s3:=sm1 (m:=u % 10000 / 100) (by omega)
   have s2:=sm0 (m:=u % 10000 / 100) (by omega)
   unfold SM at s1 s0 s3 s2
   rw[s1,zAa,s0,zAa,zKf (by omega),zAa,zJx hq _ (by simp),zAW,zKf (by omega),zAa,zJx (zBm hq) _ (by simp),zAW]
   have e3:zAB .no .sub (.int .i64 (4:Nat)) (.int .i64 3)=some (.int .i64 (1:Nat)):=rfl
   have e4:zAB .no .sub (.int .i64 (4:Nat)) (.int .i64 4)=some (.int .i64 (0:Nat)):=rfl
   rw[e3,zAa,e4,zAa]
   rw[s3,zAa,s2,zAa,zKf (by omega),zAa,zJx (zBm (zBm hq)) _ (by simp),zAW,zKf (by omega),zAa,zJx (zBm (zBm (zBm hq))) _ (by simp),zAW,zAa]
   refine hk _ _ _ ⟨rfl,rfl,?_,(((Keep.set (S:=(· = q)) rfl).trans (Keep.set rfl)).trans (Keep.set rfl)).trans (Keep.set rfl)⟩
   rw[zBm (zBm (zBm (zBm hq)))];rfl
  rintro _ _ h ⟨rfl,rfl,hq2,k2⟩
  refine zMk (λn _ h'=>n = .int .i64 (0:Nat)/\h=h') (λk hk=>?_) ?_
  ·simp only[zAJ (op := .geq),zC8,zAa,zAl,decide_eq_true_eq]
   rw[if_neg (by omega)]
   exact hk _ _ _ ⟨rfl,rfl⟩
  rintro _ _ _ ⟨rfl,rfl⟩
  simp only[zAJ (op := .gtr),zC8,zAa,zAl,decide_eq_true_eq]
  rw[if_neg (by omega)]
  refine⟨_,hq2,rfl,?_,k2⟩
  have p:zHF 4 u=[zDB (u / 10 / 10 / 10 % 10),zDB (u / 10 / 10 % 10),zDB (u / 10 % 10),zDB (u % 10)]:=rfl
  rw[p,show u / 10 / 10 / 10 % 10=u % 10000 / 100 / 10 by omega,show u / 10 / 10 % 10=u % 10000 / 100 % 10 by omega,show u / 10 % 10=u % 10000 % 100 / 10 by omega,show u % 10=u % 10000 % 100 % 10 by omega]
  rfl
 ·refine zMk (λn x h=>n = .int .i64 (1:Nat)/\x = .int .u32 ((u / 10000:Nat):Int)/\h[q]? = some (.cells [c0,c1,.int .u8 (zDB (u % 10000 / 100 / 10)).toNat,.int .u8 (zDB (u % 10000 / 100 % 10)).toNat,.int .u8 (zDB (u % 10000 % 100 / 10)).toNat,.int .u8 (zDB (u % 10000 % 100 % 10)).toNat,c6,c7,c8,c9,c10,c11,c12,c13,c14,c15,c16,c17,c18,c19,c20,c21,c22,c23].toArray T (0,0))/\Keep (· = q) H h) (λk hk=>?_) ?_
  ·simp only[zAJ (op := .geq),zC8,zAa,zAl,decide_eq_true_eq]
   rw[if_pos (by omega)]
   simp only[zAj1,zAj2 (show u<4294967296 by omega),zAfc (show u % 10000<4294967296 by omega),zAfb,m2 (show u % 10000 / 100<1000000 by omega),m2 (show u % 10000 % 100<1000000 by omega),zAa,p1 (show u % 10000 % 100*2<1000000 by omega),p1 (show u % 10000 / 100*2<1000000 by omega)]
   have e1:zAB .no .sub (.int .i64 (5:Nat)) (.int .i64 1)=some (.int .i64 (4:Nat)):=rfl
   have e2:zAB .no .sub (.int .i64 (5:Nat)) (.int .i64 2)=some (.int .i64 (3:Nat)):=rfl
   rw[e1,zAa,e2,zAa]
   have s1:=sm1 (m:=u % 10000 % 100) (by omega)
   have s0:=sm0 (m:=u % 10000 % 100) (by omega)
   have s3:=sm1 (m:=u % 10000 / 100) (by omega)
   have s2:=sm0 (m:=u % 10000 / 100) (by omega)
   unfold SM at s1 s0 s3 s2
   rw[s1,zAa,s0,zAa,zKf (by omega),zAa,zJx hq _ (by simp),zAW,zKf (by omega),zAa,zJx (zBm hq) _ (by simp),zAW]
   have e3:zAB .no .sub (.int .i64 (5:Nat)) (.int .i64 3)=some (.int .i64 (2:Nat)):=rfl
   have e4:zAB .no .sub (.int .i64 (5:Nat)) (.int .i64 4)=some (.int .i64 (1:Nat)):=rfl
   rw[e3,zAa,e4,zAa]
   rw[s3,zAa,s2,zAa,zKf (by omega),zAa,zJx (zBm (zBm hq)) _ (by simp),zAW,zKf (by omega),zAa,zJx (zBm (zBm (zBm hq))) _ (by simp),zAW,zAa]
   refine hk _ _ _ ⟨rfl,rfl,?_,(((Keep.set (S:=(· = q)) rfl).trans (Keep.set rfl)).trans (Keep.set rfl)).trans (Keep.set rfl)⟩
   rw[zBm (zBm (zBm (zBm hq)))];rfl
  rintro _ _ h ⟨rfl,rfl,hq2,k2⟩
  refine zMk (λn x h'=>n = .int .i64 (1:Nat)/\x = .int .u32 ((u / 10000:Nat):Int)/\h=h') (λk hk=>?_) ?_
  ·simp only[zAJ (op := .geq),zC8,zAa,zAl,decide_eq_true_eq]
   rw[if_neg (by omega)]
   exact hk _ _ _ ⟨rfl,rfl,rfl⟩
  rintro _ _ _ ⟨rfl,rfl,rfl⟩
  simp only[zAJ (op := .gtr),zC8,zAa,zAl,decide_eq_true_eq]
  rw[if_pos (by omega)]
  have hlt:u / 10000<10:=by omega
  simp only[zAJ (op := .add),zC8,zAa,zFH,zSM hlt]
  have ei:ixS 1 (.slice (some ⟨q,1,none⟩) 5 23) (.int .i64 0)=some (Ptr q 1):=rfl
  rw[ei,zAa,zJx hq2 _ (by simp),zAW]
  refine⟨_,zBm hq2,rfl,?_,k2.trans (Keep.set rfl)⟩
  have p:zHF 5 u=[zDB (u / 10 / 10 / 10 / 10 % 10),zDB (u / 10 / 10 / 10 % 10),zDB (u / 10 / 10 % 10),zDB (u / 10 % 10),zDB (u % 10)]:=rfl
  rw[p,show u / 10 / 10 / 10 / 10 % 10=u / 10000 by omega,show u / 10 / 10 / 10 % 10=u % 10000 / 100 / 10 by omega,show u / 10 / 10 % 10=u % 10000 / 100 % 10 by omega,show u / 10 % 10=u % 10000 % 100 / 10 by omega,show u % 10=u % 10000 % 100 % 10 by omega]
  rfl
 ·refine zMk (λn x h=>n = .int .i64 (2:Nat)/\x = .int .u32 ((u / 10000:Nat):Int)/\h[q]? = some (.cells [c0,c1,c2,.int .u8 (zDB (u % 10000 / 100 / 10)).toNat,.int .u8 (zDB (u % 10000 / 100 % 10)).toNat,.int .u8 (zDB (u % 10000 % 100 / 10)).toNat,.int .u8 (zDB (u % 10000 % 100 % 10)).toNat,c7,c8,c9,c10,c11,c12,c13,c14,c15,c16,c17,c18,c19,c20,c21,c22,c23].toArray T (0,0))/\Keep (· = q) H h) (λk hk=>?_) ?_
  ·simp only[zAJ (op := .geq),zC8,zAa,zAl,decide_eq_true_eq]
   rw[if_pos (by omega)]
   simp only[zAj1,zAj2 (show u<4294967296 by omega),zAfc (show u % 10000<4294967296 by omega),zAfb,m2 (show u % 10000 / 100<1000000 by omega),m2 (show u % 10000 % 100<1000000 by omega),zAa,p1 (show u % 10000 % 100*2<1000000 by omega),p1 (show u % 10000 / 100*2<1000000 by omega)]
   have e1:zAB .no .sub (.int .i64 (6:Nat)) (.int .i64 1)=some (.int .i64 (5:Nat)):=rfl
   have e2:zAB .no .sub (.int .i64 (6:Nat)) (.int .i64 2)=some (.int .i64 (4:Nat)):=rfl
   rw[e1,zAa,e2,zAa]
   have s1:=sm1 (m:=u % 10000 % 100) (by omega)
   have s0:=sm0 (m:=u % 10000 % 100) (by omega)
   have s3:=sm1 (m:=u % 10000 / 100) (by omega)
   have s2:=sm0 (m:=u % 10000 / 100) (by omega)
   unfold SM at s1 s0 s3 s2
   rw[s1,zAa,s0,zAa,zKf (by omega),zAa,zJx hq _ (by simp),zAW,zKf (by omega),zAa,zJx (zBm hq) _ (by simp),zAW]
   have e3:zAB .no .sub (.int .i64 (6:Nat)) (.int .i64 3)=some (.int .i64 (3:Nat)):=rfl
   have e4:zAB .no .sub (.int .i64 (6:Nat)) (.int .i64 4)=some (.int .i64 (2:Nat)):=rfl
   rw[e3,zAa,e4,zAa]
   rw[s3,zAa,s2,zAa,zKf (by omega),zAa,zJx (zBm (zBm hq)) _ (by simp),zAW,zKf (by omega),zAa,zJx (zBm (zBm (zBm hq))) _ (by simp),zAW,zAa]
   refine hk _ _ _ ⟨rfl,rfl,?_,(((Keep.set (S:=(· = q)) rfl).trans (Keep.set rfl)).trans (Keep.set rfl)).trans (Keep.set rfl)⟩
   rw[zBm (zBm (zBm (zBm hq)))];rfl
  rintro _ _ h ⟨rfl,rfl,hq2,k2⟩
  refine zMk (λn _ h'=>n = .int .i64 (0:Nat)/\h'[q]? = some (.cells [c0,.int .u8 (zDB (u / 10000 % 100 / 10)).toNat,.int .u8 (zDB (u / 10000 % 100 % 10)).toNat,.int .u8 (zDB (u % 10000 / 100 / 10)).toNat,.int .u8 (zDB (u % 10000 / 100 % 10)).toNat,.int .u8 (zDB (u % 10000 % 100 / 10)).toNat,.int .u8 (zDB (u % 10000 % 100 % 10)).toNat,c7,c8,c9,c10,c11,c12,c13,c14,c15,c16,c17,c18,c19,c20,c21,c22,c23].toArray T (0,0))/\Keep (· = q) h h') (λk hk=>?_) ?_
  ·simp only[zAJ (op := .geq),zC8,zAa,zAl,decide_eq_true_eq]
   rw[if_pos (by omega)]
   simp only[zAfb,zAa,m2 (show u / 10000 % 100<1000000 by omega),zAfc (show u / 10000<4294967296 by omega),p1 (show u / 10000 % 100*2<1000000 by omega)]
   have e1:zAB .no .sub (.int .i64 (2:Nat)) (.int .i64 1)=some (.int .i64 (1:Nat)):=rfl
   have e2:zAB .no .sub (.int .i64 (2:Nat)) (.int .i64 2)=some (.int .i64 (0:Nat)):=rfl
   rw[e1,zAa,e2,zAa]
   have s1:=sm1 (m:=u / 10000 % 100) (by omega)
   have s0:=sm0 (m:=u / 10000 % 100) (by omega)
   unfold SM at s1 s0
   rw[s1,zAa,s0,zAa,zKf (by omega),zAa,zJx hq2 _ (by simp),zAW,zKf (by omega),zAa,zJx (zBm hq2) _ (by simp),zAW,zAa]
   refine hk _ _ _ ⟨rfl,?_,(Keep.set (S:=(· = q)) rfl).trans (Keep.set rfl)⟩
   rw[zBm (zBm hq2)];rfl
  rintro _ _ h' ⟨rfl,hq3,k3⟩
  simp only[zAJ (op := .gtr),zC8,zAa,zAl,decide_eq_true_eq]
  rw[if_neg (by omega)]
  refine⟨_,hq3,rfl,?_,k2.trans k3⟩
  have p:zHF 6 u=[zDB (u / 10 / 10 / 10 / 10 / 10 % 10),zDB (u / 10 / 10 / 10 / 10 % 10),zDB (u / 10 / 10 / 10 % 10),zDB (u / 10 / 10 % 10),zDB (u / 10 % 10),zDB (u % 10)]:=rfl
  rw[p,show u / 10 / 10 / 10 / 10 / 10 % 10=u / 10000 % 100 / 10 by omega,show u / 10 / 10 / 10 / 10 % 10=u / 10000 % 100 % 10 by omega,show u / 10 / 10 / 10 % 10=u % 10000 / 100 / 10 by omega,show u / 10 / 10 % 10=u % 10000 / 100 % 10 by omega,show u / 10 % 10=u % 10000 % 100 / 10 by omega,show u % 10=u % 10000 % 100 % 10 by omega]
  rfl
def zAgN:List Int:=[1,10,100,1000,10000,100000,1000000,10000000,100000000,1000000000,10000000000,100000000000,1000000000000,10000000000000,100000000000000,1000000000000000,10000000000000000,100000000000000000,1000000000000000000,10000000000000000000]
theorem zXE:∀ q,q<20->zAgN[q]? = some ((10 ^ q:Nat):Int):=by decide
structure zXF (H:zAx):Prop where
 tab:zAes H zDW .u64 zAgN
 sz:NG<=H.size
theorem zXF.keep {S:zA1}{H H':zAx}(h:zXF H)(k:Keep S H H')(hs:∀ b,S b->NG<=b):zXF H' :=
 ⟨h.tab.keep k λh=>absurd (hs _ h) (by decide),zBh h.sz k.1⟩
theorem zSN {k:IntKind}{u b:Nat}(h:b<=k.bits):zWe k (u:Nat) (b:Nat)=((u / 2 ^ b:Nat):Int):=by
 unfold zWe
 rw[zCS,zBN h,Int.fdiv_eq_ediv_of_nonneg _ (by exact Int.le_of_lt (Int.pow_pos (by decide)))]
 norm_cast
def zWZ (x:Nat):Nat:=if x=0 then 0 else Nat.log2 x+1
theorem zYW {x:Nat}(h:x<256):zWZ x<=8:=by
 unfold zWZ;split
 ·omega
 ·have:=(Nat.log2_lt (n:=x) (k:=8) ‹_›).2 h;omega
theorem zRY {x:Nat}(h:0<x):0<zWZ x/\2 ^ (zWZ x-1)<=x/\x<2 ^ zWZ x:=by
 unfold zWZ;rw[if_neg (by omega)]
 exact⟨by omega,Nat.log2_self_le (by omega),Nat.lt_log2_self⟩
def L8l:List UInt8:=(List.range 256).map λx=>UInt8.ofNat (zWZ x)
def L8:ByteArray:=⟨#[0,1,2,2,3,3,3,3,4,4,4,4,4,4,4,4,5,5,5,5,5,5,5,5,5,5,5,5,5,5,5,5,6,6,6,6,6,6,6,6,6,6,6,6,6,6,6,6,6,6,6,6,6,6,6,6,6,6,6,6,6,6,6,6,7,7,7,7,7,7,7,7,7,7,7,7,7,7,7,7,7,7,7,7,7,7,7,7,7,7,7,7,7,7,7,7,7,7,7,7,7,7,7,7,7,7,7,7,7,7,7,7,7,7,7,7,7,7,7,7,7,7,7,7,7,7,7,7,8,8,8,8,8,8,8,8,8,8,8,8,8,8,8,8,8,8,8,8,8,8,8,8,8,8,8,8,8,8,8,8,8,8,8,8,8,8,8,8,8,8,8,8,8,8,8,8,8,8,8,8,8,8,8,8,8,8,8,8,8,8,8,8,8,8,8,8,8,8,8,8,8,8,8,8,8,8,8,8,8,8,8,8,8,8,8,8,8,8,8,8,8,8,8,8,8,8,8,8,8,8,8,8,8,8,8,8,8,8,8,8,8,8,8,8,8,8,8,8,8,8,8,8,8,8,8,8]⟩
theorem zAlT:L8=⟨L8l.toArray⟩:=by kernel_rfl
theorem zAj4 {x:Nat}(h:x<256):ixT (.string L8) (.int .u8 (x:Nat))=some (.int .u8 (zWZ x:Nat)):=by
 rw[zAlT,zLN (l:=L8l) (x:=UInt8.ofNat (zWZ x)) (by simp[L8l,h])]
 rw[UInt8.toNat_ofNat',Nat.mod_eq_of_lt (by have:=zYW h;omega)]
theorem zQm {x off:Nat}{H:zAx}{R:zAm}(hx:x<256)(ho:off<=100)(h:R (.int .i64 ((off+zWZ x:Nat):Int)) H) :
  Mpu (cvI .u8 (.int .u64 (x:Nat))) λt21=>Mpu (ixT (.string L8) t21) λt22=>Mpu (cvI .i64 t22) λt23=>Mpu (zAB .no .add (.int .i64 (off:Nat)) t23) λt24=>R t24 H:=by
 have:=zYW hx
 simp only[zFH,zAcE (show(0:Int)<=x by omega) (show(x:Int)<=255 by omega),zAa,zAj4 hx,zAJ (op := .add),zC8]
 have e1:IntKind.i64.wrap (zWZ x:Int)=zWZ x:=by rw[zCe]<;>omega
 have e2:IntKind.i64.wrap ((off:Int)+(zWZ x:Int))=((off+zWZ x:Nat):Int):=by rw[zCe]<;>omega
 rw[e1,e2];exact h
def zAgO (H:zAx)(u:Nat)(v:Value)(H':zAx):Prop:=H=H'/\∃ m:Nat,v = .int .i64 (m:Nat)/\0<m/\2 ^ (m-1)<=u/\u<2 ^ m
theorem zAcS {H:zAx}{u:Nat}(h0:0<u)(hu:u<1000000):zAA prg zGC [.int .u64 (u:Nat)] H (zAgO H u):=by
 apply zE9
 unfold zGg
 have s16:zAB .no .shr (.int .u64 (u:Nat)) (.int .u64 16)=some (.int .u64 ((u / 65536:Nat):Int)):=by rw[zSL (by omega)];exact congrArg (λz=>some (Value.int .u64 z)) (zSN (k := .u64) (u:=u) (b:=16) (by decide))
 have s8:zAB .no .shr (.int .u64 (u:Nat)) (.int .u64 8)=some (.int .u64 ((u / 256:Nat):Int)):=by rw[zSL (by omega)];exact congrArg (λz=>some (Value.int .u64 z)) (zSN (k := .u64) (u:=u) (b:=8) (by decide))
 have a16:zAB .no .add (.int .i64 0) (.int .i64 16)=some (.int .i64 (16:Nat)):=rfl
 have a8:zAB .no .add (.int .i64 0) (.int .i64 8)=some (.int .i64 (8:Nat)):=rfl
 simp only[zAcx,zAJ (op := .geq),zC8,zAa,zAl,decide_eq_true_eq]
 rw[if_neg (by omega)]
 by_cases h1:65536<=u
 ·rw[if_pos (by omega),s16,zAa,a16,zAa]
  simp only[zAJ (op := .geq),zC8,zAa,zAl,decide_eq_true_eq]
  rw[if_neg (by omega)]
  refine zQm (R:=zAgO H u) (H:=H) (off:=16) (x:=u / 65536) (by omega) (by omega) ?_
  obtain⟨l1,l2,l3⟩:=zRY (x:=u / 65536) (by omega)
  generalize zWZ (u / 65536)=m at *
  refine⟨rfl,16+m,rfl,by omega,?_,?_⟩
  ·rw[show 16+m-1=16+(m-1) by omega,zCV];omega
  ·rw[zCV];omega
 ·rw[if_neg (by omega)]
  by_cases h2:256<=u
  ·rw[if_pos (by omega),s8,zAa,a8,zAa]
   refine zQm (R:=zAgO H u) (H:=H) (off:=8) (x:=u / 256) (by omega) (by omega) ?_
   obtain⟨l1,l2,l3⟩:=zRY (x:=u / 256) (by omega)
   generalize zWZ (u / 256)=m at *
   refine⟨rfl,8+m,rfl,by omega,?_,?_⟩
   ·rw[show 8+m-1=8+(m-1) by omega,zCV];omega
   ·rw[zCV];omega
  ·rw[if_neg (by omega)]
   refine zQm (R:=zAgO H u) (H:=H) (off:=0) (x:=u) (by omega) (by omega) ?_
   obtain⟨l1,l2,l3⟩:=zRY h0
   exact⟨rfl,0+zWZ u,rfl,by omega,by rw[zAi];exact l2,by rw[zAi];exact l3⟩
theorem zAj5:∀ m,m<21->7<=m->10 ^ (m*78913 / 262144-1)<=2 ^ (m-1)/\2 ^ m<=10 ^ (m*78913 / 262144+1)/\m*78913 / 262144<20:=by decide
theorem zYX {H:zAx}{u:Nat}(h0:100<=u)(hu:u<1000000)(hT:zXF H):zAA prg zEf [.int .u64 (u:Nat)] H λv H'=>H=H'/\∃ nd:Nat,v = .int .i64 (nd:Nat)/\3<=nd/\nd<=6/\10 ^ (nd-1)<=u/\u<10 ^ nd:=by
 apply zFI
 unfold zFf
 refine zAI (zAcS (by omega) hu) ?_
 rintro _ _ ⟨rfl,m,rfl,hm0,hm1,hm2⟩
 have m7:7<=m:=by
  rcases Nat.lt_or_ge m 7 with h|h
  ·have:2 ^ m<=2 ^ 6:=zBL (by omega) (by omega)
   omega
  ·exact h
 have m20:m<21:=by
  rcases Nat.lt_or_ge m 21 with h|h
  ·exact h
  ·have:2 ^ 20<=2 ^ (m-1):=zBL (by omega) (by omega)
   omega
 obtain⟨b1,b2,b3⟩:=zAj5 m m20 m7
 generalize hq:m*78913 / 262144=q at *
 refine zAI (R:=λv H'=>H=H'/\v = .int .i64 (q:Nat)) ?_ ?_
 ·apply zFJ
  unfold zFg
  have e:zAB .no .mul (.int .i64 (m:Nat)) (.int .i64 78913)=some (.int .i64 ((m*78913:Nat):Int)):=by
   rw[zAJ];simp only[zC8];rw[zCe]<;>first|rfl|omega
  rw[e,zAa,zSL (by omega),zAa]
  refine⟨rfl,?_⟩
  have:=zSN (k := .i64) (u:=m*78913) (b:=18) (by decide)
  rw[show(2:Nat) ^ 18=262144 by rfl,hq]at this
  exact congrArg (Value.int .i64) this
 rintro _ _ ⟨rfl,rfl⟩
 rw[zSD b3,zAa,hT.tab.ld (zXE q b3),zAa]
 simp only[zAJ (op := .geq),zC8,zAa]
 refine zAI (R:=λv H'=>H=H'/\v = .int .i64 ((if 10 ^ q<=u then 1 else 0:Nat):Int)) ?_ ?_
 ·apply zFK
  unfold zFh
  rw[zAl]
  by_cases h:10 ^ q<=u
  ·rw[if_pos (by simpa using Int.ofNat_le.2 h),if_pos h];exact⟨rfl,rfl⟩
  ·rw[if_neg (by simpa using λh'=>h (Int.ofNat_le.1 h')),if_neg h];exact⟨rfl,rfl⟩
 rintro _ _ ⟨rfl,rfl⟩
 have bnd:∀ nd,10 ^ (nd-1)<=u->u<10 ^ nd->3<=nd/\nd<=6:=λnd g1 g2=>by
  constructor
  ·rcases Nat.lt_or_ge nd 3 with h|h
   ·have:10 ^ nd<=10 ^ 2:=zBL (by omega) (by omega)
    omega
   ·exact h
  ·rcases Nat.lt_or_ge 6 nd with h|h
   ·have:10 ^ 6<=10 ^ (nd-1):=zBL (by omega) (by omega)
    omega
   ·exact h
 have key:∃ nd:Nat,nd=q+(if 10 ^ q<=u then 1 else 0)/\3<=nd/\nd<=6/\10 ^ (nd-1)<=u/\u<10 ^ nd:=by
  by_cases h:10 ^ q<=u
  ·rw[if_pos h]
   have g2:u<10 ^ (q+1):=zAM hm2 b2
   obtain⟨g3,g4⟩:=bnd (q+1) (by simpa using h) g2
   exact⟨q+1,rfl,g3,g4,by simpa using h,g2⟩
  ·rw[if_neg h]
   have g1:10 ^ (q-1)<=u:=zBh b1 hm1
   obtain⟨g3,g4⟩:=bnd q g1 (by omega)
   exact⟨q,rfl,g3,g4,g1,by omega⟩
 obtain⟨nd,hnd,k3,k6,k1,k2⟩:=key
 have e:zAB .no .add (.int .i64 (q:Nat)) (.int .i64 ((if 10 ^ q<=u then 1 else 0:Nat):Int))=some (.int .i64 (nd:Nat)):=by
  rw[zAJ];simp only[zC8];rw[hnd];push_cast;rw[zCe]<;>first|rfl|(split<;>omega)
 rw[e,zAa]
 exact⟨rfl,nd,rfl,k3,k6,k1,k2⟩
theorem zAj6:zBI prg zI9=some (zBs (List.replicate 24 0)).toArray:=by kernel_rfl
theorem zAj7 {n:Nat}(hn:n<1000000){H:zAx}(hT:zXF H):zAA prg zFz [.int .i64 n] H λu H'=>u=str (zHj n)/\Keep zAK H H':=by
 by_cases hs:n<100
 ·exact zUm hs
 apply zH0
 unfold zJ2
 refine zAI (R:=λu H'=>u=str (zHj n)/\Keep zAK H H') ?_ λu h hR=>hR
 apply zEW
 unfold zE7
 refine zAI (R:=λu H'=>u=str (zHj n)/\Keep zAK H H') ?_ λu h hR=>hR
 apply zD7
 unfold zD3
 have e1:((10:Int) == 10)=true:=rfl
 have e2:(0:Int)<=n:=by omega
 have e3:¬ (n:Int)<100:=by omega
 have e4:¬ (n:Int)<0:=by omega
 have ec:IntKind.u64.wrap (n:Int)=(n:Nat):=zWk (by omega) (by omega)
 simp only[zAJ (op := .eql),zAJ (op := .leq),zAJ (op := .lss),zC8,zAa,zAl,e1,if_true,zBT,zAQ,e2,e3,e4,decide_true,decide_false,zAv,zAb,if_false,zAj6,zBb,zFH,ec]
 generalize hH1:H.push (.cells (zBs (List.replicate 24 0)).toArray zI9 (0,0))=H1
 have k1:Keep zAK H H1:=by rw[<- hH1];exact Keep.push
 have hq1:H1[H.size]? = some (.cells (zBs (List.replicate 24 0)).toArray zI9 (0,0)):=by rw[<- hH1];exact zCj
 refine zAI (zYX (by omega) hn (hT.keep k1 λ_ h=>h.elim)) ?_
 rintro _ _ ⟨rfl,nd,rfl,h3,h6,p1,p2⟩
 have a1:zAB .no .add (.int .i64 1) (.int .i64 (nd:Nat))=some (.int .i64 ((1+nd:Nat):Int)):=by
  rw[zAJ];simp only[zC8];rw[zCe]<;>first|rfl|omega
 have sl:slA 24 1 (.pointer (some ⟨H.size,0,none⟩)) (some (.int .i64 1)) (some (.int .i64 ((1+nd:Nat):Int))) none=some (.slice (some ⟨H.size,1,none⟩) nd 23):=by
  have hs:nd=3\/nd=4\/nd=5\/nd=6:=by omega
  rcases hs with rfl|rfl|rfl|rfl<;>rfl
 rw[a1,zAa,sl,zAa]
 refine zAI (zAbg hq1 (by simp) h3 h6 p2) ?_
 rintro _ h8 ⟨cs,hq8,hl8,hd,k8⟩
 have hb:b2s h8 (.slice (some ⟨H.size,1,none⟩) nd 23)=some (str (zHF nd n)):=by
  have hpl:(zHF nd n).length=nd:=by
   have hs:nd=3\/nd=4\/nd=5\/nd=6:=by omega
   rcases hs with rfl|rfl|rfl|rfl<;>rfl
  exact(Bs.mk (l:=zHF nd n) hq8 hpl.symm (by simp[hl8];omega) (by simpa using hd)).b2s λs h=>by cases h
 simp only[a1,sl,hb,zAa]
 obtain⟨m,rfl⟩:∃ m,nd=m+1:=⟨nd-1,by omega⟩
 refine⟨by rw[zWl m n (by simpa using p1) p2],?_⟩
 exact⟨zBh k1.1 k8.1,λi hi _=>by rw[k8.2 i (zAM hi k1.1) (by omega),k1.2 i hi id]⟩
theorem zWm {H:zAx}{v:Ver}(hv:v.wf)(hT:zXF H):zAA prg zDD [.agg (zEm v).toArray] H λu H'=>u=str (zHO v)/\Keep zAK H H' :=
 zAib hv λn _ h0 h1 h k=>by
  obtain⟨m,rfl⟩:∃ m:Nat,n=m:=⟨n.toNat,by omega⟩
  exact zAj7 (by omega) (hT.keep k λ_ hb=>zBh hT.sz hb)
theorem Items.one {P:zA1}{H:zAx}{v:Value}{xs:List Item}(h:Items P H v xs):v.oneCell'=true:=h.1.oneC
structure zAgP where
 k:Int
 bef:List Item
 aft:List Item
 s:Int
 r:List UInt8
instance:DecidableEq Ver:=λa b=>decidable_of_iff (a.p=b.p/\a.pre=b.pre) (by cases a;cases b;simp)
instance:DecidableEq Item:=λa b=>decidable_of_iff (a.name=b.name/\a.ver=b.ver/\a.sum=b.sum) (by cases a;cases b;simp)
theorem zFO {k1 k2:List Nat}{a1 a2 b1 b2:List Value}{p q:Bool}(ha:a1.length=k1.length)(hb:b1.length=k1.length)(h1:zCw k1 a1 b1=some p)(h2:zCw k2 a2 b2=some q):zCw (k1++k2) (a1++a2) (b1++b2)=some (p&&q):=by
 induction k1 generalizing a1 b1 p with
 | nil =>
  obtain rfl:=zBo.1 ha
  obtain rfl:=zBo.1 hb
  simp only[zCw,zAn]at h1
  subst h1;simpa using h2
 | cons k k1 ih =>
  match a1,b1,ha,hb with
  | a::a1,b::b1,ha,hb =>
   simp only[zCw]at h1
   simp only[zCA,zCw]
   cases hx:zN1 k a b with
   | none=>rw[hx]at h1;cases h1
   | some x =>
    cases hy:zCw k1 a1 b1 with
    | none=>rw[hx,hy]at h1;cases h1
    | some y =>
     rw[hx,hy]at h1
     simp only[zAn]at h1
     rw[ih (by simpa using ha) (by simpa using hb) hy]
     simp[<- h1,Bool.and_assoc]
theorem zPZ {k:IntKind}{l m:List Int}(h:l.length=m.length):zCw (List.replicate l.length 0) (zCm k l) (zCm k m)=some (decide (l=m)):=by
 induction l generalizing m with
 | nil=>cases m with
  | nil=>rfl
  | cons b m=>cases h
 | cons a l ih=>cases m with
  | nil=>cases h
  | cons b m =>
   have e:zN1 0 (.int k a) (.int k b)=some (decide (a=b)):=by
    simp only[zN1,if_true];congr 1
   have e2:=ih (m:=m) (by simpa using h)
   simp only[zCm]at e2
   simp only[zAS,List.replicate_succ,zCm,zA0,zCw,e,e2]
   congr 1
   simp[zAR]
theorem zG6 {a b:List UInt8}:zCw [2] [str a] [str b]=some (decide (a=b)):=by
 simp only[zCw,zN1,zLg,Bool.and_true]
 congr 1;rw[zAR];simp
def zAfd:List Nat:=[2]++((List.replicate 3 0++[2])++List.replicate 32 0)
theorem zAfe:eqK prg zCh = .flat zAfd:=by kernel_rfl
theorem zAj8 {x y:Item}(hx:x.wf)(hy:y.wf):zCw zAfd (zFi x) (zFi y)=some (decide (x=y)):=by
 have h1:zCw (List.replicate 3 0) (zCm .i64 x.ver.p) (zCm .i64 y.ver.p)=some (decide (x.ver.p=y.ver.p)):=by
  have:=zPZ (k := .i64) (l:=x.ver.p) (m:=y.ver.p) (by rw[hx.ver.p3,hy.ver.p3])
  rwa [hx.ver.p3]at this
 have h2:zCw (List.replicate 32 0) (zBs x.sum) (zBs y.sum)=some (decide (x.sum=y.sum)):=by
  have:=zJ0 (l:=x.sum) (m:=y.sum) (by rw[hx.sum,hy.sum])
  rwa [hx.sum]at this
 have hv:=zFO (by simp[hx.ver.p3]) (by simp[hy.ver.p3]) h1 (zG6 (a:=x.ver.pre) (b:=y.ver.pre))
 have hvs:=zFO (by simp[hx.ver.p3]) (by simp[hy.ver.p3]) hv h2
 have:=zFO (k1:=[2]) rfl rfl (zG6 (a:=x.name) (b:=y.name)) hvs
 have e:zFi x=[str x.name]++((zCm .i64 x.ver.p++[str x.ver.pre])++zBs x.sum):=rfl
 have e':zFi y=[str y.name]++((zCm .i64 y.ver.p++[str y.ver.pre])++zBs y.sum):=rfl
 rw[e,e']
 unfold zAfd
 rw[this]
 congr 1
 rw[zAR]
 obtain⟨n,⟨p,q⟩,s⟩:=x
 obtain⟨n',⟨p',q'⟩,s'⟩:=y
 simp
def New (H H':zAx):zA1:=λb=>H.size<=b/\b<H'.size
theorem zAmU {H:zAx}{q:Nat}{z m:List Value}{T:TypeId}(hq:H[q]? = some (.cells z.toArray T (0,0)))(hz:z.length=36)(hm:m.length=36)(h1:∀ c∈m,c.oneCell'=true):stN 36 H (Ptr q 0) (.agg m.toArray)=some (H.setIfInBounds q (.cells m.toArray T (0,0))):=by
 have:=zPF (n:=36) (o:=0) (A:=[]) (B:=z) (C:=[]) (B':=m) (by rw[zAY,zAP];exact hq) rfl (by simp[hz]) hm (zVw h1)
 rw[zAY,zAP]at this
 exact this
theorem Items.mono {P Q:zA1}{H:zAx}{v:Value}{xs:List Item}(h:Items P H v xs)(k:∀ b,P b->Q b):Items Q H v xs:=⟨h.1.mono k,h.2⟩
theorem BufE.re {n:Nat}{F G:zA1}{H:zAx}{v:Value}{xs:List (List Value)}(h:BufE n F H v xs)(k:∀ b,b<H.size->F b->G b):BufE n G H v xs:=by
 obtain⟨h1,h2,h|⟨b,o,c,cs,T,f,rfl,hf,hc,hb,hr⟩⟩:=h
 ·exact⟨h1,h2,.inl h⟩
 ·exact⟨h1,h2,.inr ⟨b,o,c,cs,T,f,rfl,k b (lt_of hb) hf,hc,hb,hr⟩⟩
def zWn (F:zA1)(H:zAx)(a:zAgP)(x:Value×Value):Prop:=a.r.length=32/\Items F H x.1 a.bef/\Items F H x.2 a.aft/\a.bef.length<=1048576/\a.aft.length<=1048576
theorem zWn.keep {F S:zA1}{H H':zAx}{a:zAgP}{x:Value×Value}(h:zWn F H a x)(k:Keep S H H')(hs:∀ b,F b->¬ S b):zWn F H' a x:=⟨h.1,h.2.1.keep k hs,h.2.2.1.keep k hs,h.2.2.2⟩
theorem zWn.mono {F G:zA1}{H:zAx}{a:zAgP}{x:Value×Value}(h:zWn F H a x)(k:∀ b,F b->G b):zWn G H a x:=⟨h.1,h.2.1.mono k,h.2.2.1.mono k,h.2.2.2⟩
theorem Keep.back {S:zA1}{H H':zAx}(h:Keep zAK H H'){b:Nat}(hb:b<H.size):H[b]? = H'[b]?:=(h.2 b hb id).symm
theorem BufE.keepBack {n:Nat}{F:zA1}{H H':zAx}{v:Value}{xs:List (List Value)}(h:BufE n F H' v xs)(k:Keep zAK H H')(hs:∀ b,F b->b<H.size):BufE n F H v xs:=by
 obtain⟨h1,h2,h|⟨b,o,c,cs,T,f,rfl,hf,hc,hb,hr⟩⟩:=h
 ·exact⟨h1,h2,.inl h⟩
 ·exact⟨h1,h2,.inr ⟨b,o,c,cs,T,f,rfl,hf,hc,by rw[<- k.2 b (hs b hf) id];exact hb,hr⟩⟩
theorem SlE.keepBack {n:Nat}{P:zA1}{H H':zAx}{v:Value}{xs:List (List Value)}(h:SlE n P H' v xs)(k:Keep zAK H H')(hs:∀ b,P b->b<H.size):SlE n P H v xs:=by
 obtain⟨⟨a,c,hv,hc,hx⟩,h2,h3⟩:=h
 refine⟨⟨a,c,hv,hc,hx.imp id ?_⟩,h2,h3⟩
 rintro⟨b,o,rfl,hP,cs,T,f,hb,h4,h5⟩
 exact⟨b,o,rfl,hP,cs,T,f,by rw[<- k.2 b (hs b hP) id];exact hb,h4,h5⟩
theorem Items.keepBack {P:zA1}{H H':zAx}{v:Value}{xs:List Item}(h:Items P H' v xs)(k:Keep zAK H H')(hs:∀ b,P b->b<H.size):Items P H v xs:=⟨SlE.keepBack h.1 k hs,h.2⟩
theorem zWn.back {F S:zA1}{H h4 h16:zAx}{a:zAgP}{x:Value×Value}(h:zWn F h4 a x)(k:Keep zAK H h4)(hs:∀ b,F b->b<H.size)(k2:Keep S H h16)(hs2:∀ b,F b->¬ S b):zWn F h16 a x :=
 ⟨h.1,(Items.keepBack h.2.1 k hs).keep k2 hs2,(Items.keepBack h.2.2.1 k hs).keep k2 hs2,h.2.2.2⟩
section
variable {p:Nat} {Fr Fc Fi:zA1} {H:zAx} {rs:List zAgP} {ch:List (List UInt8)}
end
theorem zUn {P:Program}{e:TypeId}{n:Nat}{z:Array Value}{v:Value}(hn:P.cellsOf e=n)(h0:0<n)(h1:n<=16777216)(hz:zBI P e=some z)(hzs:z.size=n)(hv:v.cells.size=n):zF6 P e 1 [(0,v)]=some v.cells:=by
 unfold zF6
 rw[hn,if_neg (by omega),hz,zAZ,if_pos hzs]
 have hs:(zSo z (1*n)).size=n:=by simp[zSo]
 have hspl:spl (zSo z (1*n)) (0*n) v.cells=v.cells:=by
  unfold spl
  rw[Nat.zero_mul,zAi,hv]
  apply Array.ext'
  have hs':(zSo z n).size=n:=by simpa using hs
  simp[hs']
 simp only[zQ1]
 rw[if_pos ⟨hv,by rw[hs];omega⟩,hspl]
section
variable {p:Nat} {Fr Fc Fi P:zA1} {H:zAx} {rs:List zAgP} {ch:List (List UInt8)} {vb va:Value} {a:zAgP}
end
def zAcT:List Nat:=List.replicate 32 0
theorem zZ4:eqK prg zB5 = .flat zAcT:=by kernel_rfl
theorem zAic {a b:List UInt8}(ha:a.length=32)(hb:b.length=32):zAB (eqK prg zB5) .neq (bv a) (bv b)=some (.bool (!decide (a=b))):=by
 unfold bv
 rw[zMJ,zZ4]
 show(zCw zAcT (zBs a).toArray.toList (zBs b).toArray.toList).map (λb=>Value.bool (!b))=_
 have:=zJ0 (l:=a) (m:=b) (by omega)
 rw[ha]at this
 unfold zAcT
 rw[zA9,zA9,this];rfl
theorem zAid {a b:List UInt8}(ha:a.length=32)(hb:b.length=32):zAB (eqK prg zB5) .eql (bv a) (bv b)=some (.bool (decide (a=b))):=by
 unfold bv
 rw[zMI,zZ4]
 show(zCw zAcT (zBs a).toArray.toList (zBs b).toArray.toList).map Value.bool=_
 have:=zJ0 (l:=a) (m:=b) (by omega)
 rw[ha]at this
 unfold zAcT
 rw[zA9,zA9,this];rfl
end Go.Proofs.YticdfkoncnnmmaaGreatDoor
