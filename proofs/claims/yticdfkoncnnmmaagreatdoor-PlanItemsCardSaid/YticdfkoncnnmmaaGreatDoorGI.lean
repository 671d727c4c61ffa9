import Derived.Test.YticdfkoncnnmmaaGreatDoorGH
import Derived.Lib.Bytealg
import Derived.Lib.Builder
import Derived.Lib.MakeNoZero
import Derived.Lib.UnsafeStr
set_option linter.unusedSimpArgs false
set_option linter.unusedVariables false
set_option maxRecDepth 100000
namespace Go.Proofs.YticdfkoncnnmmaaGreatDoor
open Go.X
def zOI (cs:List UInt8):List Value:=(List.range 256).map fun i => .bool (cs.any fun c=>c.toNat == i)
@[simp] theorem zAgJ {cs:List UInt8}:(zOI cs).length=256:=by simp[zOI]
theorem zAa2 {cs:List UInt8}:(zOI cs).toArray.all (·.oneCell')=true:=by
 rw[Array.all_eq_true_iff_forall_mem];intro v hv
 simp only[zOI,List.mem_toArray,List.mem_map]at hv
 obtain⟨i,_,rfl⟩:=hv;rfl
theorem zAa3 {cs:List UInt8}{x:UInt8}:(zOI cs)[x.toNat]? = some (.bool (cs.contains x)):=by
 have hx:x.toNat<256:=x.toNat_lt
 simp only[zOI,List.getElem?_map,List.getElem?_range hx,Option.map_some]
 congr 2
 rw[Bool.eq_iff_iff]
 simp only[List.any_eq_true,beq_iff_eq,List.contains_iff_mem]
 constructor
 ·rintro⟨c,hc,he⟩;rwa [<- UInt8.toNat.inj he]
 ·intro h;exact⟨x,h,rfl⟩
theorem zAa4 {cs:List UInt8}{x:UInt8}:(zOI cs).set x.toNat (.bool true)=zOI (cs++[x]):=by
 apply List.ext_getElem?
 intro i
 rw[List.getElem?_set]
 by_cases hi:i<256
 ·simp only[zOI,List.getElem?_map,List.getElem?_range hi,Option.map_some,List.length_map,List.length_range,List.any_append,List.any_cons,List.any_nil,Bool.or_false]
  split
  ·rename_i h;subst h;rw[if_pos hi];simp
  ·rename_i h
   congr 2
   have:(x.toNat == i)=false:=by simpa using h
   rw[this,Bool.or_false]
 ·simp[zOI,hi]
  intro h;have:=x.toNat_lt;omega
theorem zAfn:zAB prg zBa=some (zOI []).toArray:=by kernel_rfl
theorem zAfo {H:zAd}{q:Nat}{cs:List UInt8}{T:TypeId}{f:Nat×Nat}(h:H[q]? = some (.cells (zOI cs).toArray T f)):ldN 256 H (Ptr q 0)=some (.agg (zOI cs).toArray) :=
 ldN_mid (A:=[]) (B:=zOI cs) (C:=[]) (by rw[List.nil_append,List.append_nil];exact h) rfl (by simp)
theorem zAfp {H:zAd}{q:Nat}{cs ds:List UInt8}{T:TypeId}(h:H[q]? = some (.cells (zOI cs).toArray T (0,0))):stN 256 H (Ptr q 0) (.agg (zOI ds).toArray)=some (H.setIfInBounds q (.cells (zOI ds).toArray T (0,0))):=by
 have:=zMH (n:=256) (o:=0) (A:=[]) (B:=zOI cs) (C:=[]) (B':=zOI ds) (by rw[List.nil_append,List.append_nil];exact h) rfl (by simp) (by simp) zAa2
 rw[List.nil_append,List.append_nil]at this
 exact this
theorem zRu {H:zAd}{cs:List UInt8}(hcs:∀ c ∈ cs,c.toNat<128)(hl:cs.length<=1000) :
  zAg prg zE2 [str cs] H fun u H'=>u = .tuple #[.agg (zOI cs).toArray,.bool true]/\Keep (fun _=>False) H H':=by
 apply zI7
 unfold zHz
 simp only[zAfn,zAs,zAF,zDU,zAa]
 generalize hH1:H.push (.cells (zOI []).toArray zBa (0,0))=H1
 have k1:Keep (fun _=>False) H H1:=by rw[<- hH1];exact Keep.push
 have hq1:H1[H.size]? = some (.cells (zOI []).toArray zBa (0,0)):=by rw[<- hH1];exact zAR
 refine zHU (fun u h=>∃ i,i<=cs.length/\u = .int .i64 (i:Nat)/\h[H.size]? = some (.cells (zOI (cs.take i)).toArray zBa (0,0))/\Keep (· = H.size) H1 h) (fun u _=>match u with | .int _ t=>cs.length - t.toNat | _=>0)
  ⟨0,Nat.zero_le _,rfl,hq1,Keep.refl⟩ ?_
 rintro _ h ⟨i,hi,rfl,hq,kh⟩ k hk
 simp only[zAi,zA9,zAa,zAc,decide_eq_true_eq]
 by_cases hlt:(i:Int)<cs.length
 ·rw[if_pos hlt]
  have hlt':i<cs.length:=by omega
  have hg:cs[i]? = some cs[i]:=List.getElem?_eq_getElem hlt'
  have hc:=hcs cs[i] (by simp)
  have hx:cs[i].toNat<256:=cs[i].toNat_lt
  have hinc:IntKind.i64.wrap ((i:Int)+1)=(i+1:Nat):=by rw[zAM] <;> omega
  rw[zI4 hg,zAa]
  simp only[zAi,zA9,zAa,zAc,decide_eq_true_eq]
  rw[if_neg (by omega),zPe hx,zAa,zUE hq (by simpa using hx) rfl,zAm,zAa4,hinc]
  refine hk _ _ ⟨i+1,hlt',rfl,?_,kh.trans (Keep.set rfl)⟩ (by show cs.length - (i+1)<cs.length - i;omega)
  rw[zAt hq,List.take_add_one,hg];rfl
 ·rw[if_neg hlt]
  obtain rfl:i=cs.length:=by omega
  rw[List.take_length]at hq
  rw[zAfo hq,zAa,zAfp hq,zAm,zAfo (zAt hq),zAa]
  refine⟨rfl,?_⟩
  have:=k1.1;have:=kh.1
  refine⟨by simp;omega,fun i hi _=>?_⟩
  rw[Array.getElem?_setIfInBounds,if_neg (by omega),kh.2 i (by omega) (by omega),k1.2 i hi id]
theorem zRV {H:zAd}{q:Nat}{cs:List UInt8}{T:TypeId}{f:Nat×Nat}(h:H[q]? = some (.cells (zOI cs).toArray T f)){x:UInt8} :
  zAg prg zCg [Ptr q 0,.int .u8 x.toNat] H fun u H'=>u = .bool (cs.contains x)/\H=H':=by
 apply zHa
 unfold zFg
 simp only[zFA,zAa]
 rw[zPe x.toNat_lt,zAa,zPM h]
 have:=zAa3 (cs:=cs) (x:=x)
 simp only[List.getElem?_toArray,this,zAa]
 exact⟨by trivial,by trivial⟩
def zLs (cs l:List UInt8):List UInt8:=l.dropWhile cs.contains
def zK2 (cs l:List UInt8):List UInt8:=(l.reverse.dropWhile cs.contains).reverse
theorem zRW {cs m:List UInt8}{x:UInt8}:zK2 cs (m++[x])=if cs.contains x then zK2 cs m else m++[x]:=by
 unfold zK2
 rw[List.reverse_append]
 simp only[List.reverse_cons,List.reverse_nil,List.nil_append,List.singleton_append,List.dropWhile_cons]
 split <;> simp
theorem dropWhile_nil {p:UInt8->Bool}{l:List UInt8}:l.dropWhile p=[]↔∀ x ∈ l,p x=true:=by
 induction l with
 | nil=>simp
 | cons a l ih =>
  rw[List.dropWhile_cons]
  by_cases h:p a=true
  ·rw[if_pos h,ih];simp[h]
  ·rw[if_neg h];simp[h]
theorem zV3 {cs l:List UInt8}:zLs cs (zK2 cs l)=[]↔∀ x ∈ l,cs.contains x=true:=by
 unfold zLs
 rw[dropWhile_nil]
 unfold zK2
 constructor
 ·intro h
  have h2:∀ x ∈ l.reverse.dropWhile cs.contains,cs.contains x=true:=fun x hx=>h x (List.mem_reverse.2 hx)
  have h3:l.reverse.dropWhile cs.contains=[]:=by
   cases hd:l.reverse.dropWhile cs.contains with
   | nil=>rfl
   | cons y t =>
    have:=List.head?_dropWhile_not (p:=cs.contains) l.reverse
    rw[hd]at this
    simp only[List.head?_cons]at this
    have h4:=h2 y (by rw[hd];simp)
    rw[h4]at this
    cases this
  intro x hx
  exact dropWhile_nil.1 h3 x (List.mem_reverse.2 hx)
 ·intro h x hx
  have:=(List.dropWhile_sublist cs.contains (l:=l.reverse)).subset (List.mem_reverse.1 hx)
  exact h x (List.mem_reverse.1 this)
theorem zQO {H:zAd}{q:Nat}{cs l:List UInt8}{T:TypeId}{f:Nat×Nat}(h:H[q]? = some (.cells (zOI cs).toArray T f)) :
  zAg prg zED [str l,Ptr q 0] H fun u H'=>u=str (zLs cs l)/\H=H':=by
 apply zIG
 unfold zGW
 simp only[zAF]
 refine zHU (fun u h=>∃ m,u=str m/\zLs cs m=zLs cs l/\H=h) (fun u _=>match u with | .string s=>s.size | _=>0) ⟨l,rfl,rfl,rfl⟩ ?_
 rintro _ _ ⟨m,rfl,hm,rfl⟩ k hk
 simp only[zDU,zAa,zAi,zA9,zAc,decide_eq_true_eq]
 cases m with
 | nil=>rw[if_neg (by simp)];exact⟨by rw[<- hm];rfl,by trivial⟩
 | cons x m =>
  rw[if_pos (by simp only[List.length_cons];omega)]
  have e:ixT (str (x :: m)) (.int .i64 0)=some (.int .u8 x.toNat):=zI4 (i:=0) rfl
  rw[e,zAa]
  refine zAk (zRV h) ?_
  rintro _ _ ⟨rfl,rfl⟩
  simp only[zAq,zAa,zAc]
  by_cases hc:cs.contains x=true
  ·rw[if_neg (by rw[hc];decide)]
   have e2:slT (str (x :: m)) (some (.int .i64 1)) none=some (str m):=by
    have:=zPf (l:=x :: m) (lo:=1) (hi:=(x :: m).length) (a:=some (.int .i64 1)) (b:=none) (by simp) (Nat.le_refl _) (by simp[bnd];omega) (by simp[bnd])
    simpa using this
   rw[e2,zAa]
   refine hk _ _ ⟨m,rfl,?_,rfl⟩ (by show(ByteArray.mk m.toArray).size<(ByteArray.mk (x :: m).toArray).size;rw[zGK,zGK];simp)
   rw[<- hm];unfold zLs;rw[List.dropWhile_cons,if_pos hc]
  ·rw[if_pos (by rw[eq_false_of_ne_true hc];rfl)]
   refine⟨?_,by trivial⟩
   rw[<- hm];unfold zLs;rw[List.dropWhile_cons,if_neg hc]
theorem zP0 {H:zAd}{q:Nat}{cs l:List UInt8}{T:TypeId}{f:Nat×Nat}(h:H[q]? = some (.cells (zOI cs).toArray T f))(hl:l.length<=9223372036854775807) :
  zAg prg zEg [str l,Ptr q 0] H fun u H'=>u=str (zK2 cs l)/\H=H':=by
 apply zIh
 unfold zGi
 simp only[zAF]
 refine zHU (fun u h=>∃ m,u=str m/\zK2 cs m=zK2 cs l/\m.length<=l.length/\H=h) (fun u _=>match u with | .string s=>s.size | _=>0) ⟨l,rfl,rfl,Nat.le_refl _,rfl⟩ ?_
 rintro _ _ ⟨m,rfl,hm,hml,rfl⟩ k hk
 simp only[zDU,zAa,zAi,zA9,zAc,decide_eq_true_eq]
 rcases List.eq_nil_or_concat m with rfl | ⟨m,x,rfl⟩
 ·rw[if_neg (by simp)];exact⟨by rw[<- hm];rfl,by trivial⟩
 ·rw[List.concat_eq_append]at *
  rw[if_pos (by simp only[List.length_append,List.length_cons];omega)]
  have hw:IntKind.i64.wrap (((m++[x]).length:Int) - 1)=(m.length:Nat):=by rw[zAM] <;> simp at hml ⊢ <;> omega
  have e:ixT (str (m++[x])) (.int .i64 (m.length:Nat))=some (.int .u8 x.toNat):=zI4 (by simp)
  rw[hw,e,zAa]
  refine zAk (zRV h) ?_
  rintro _ _ ⟨rfl,rfl⟩
  simp only[zAq,zAa,zAc]
  by_cases hc:cs.contains x=true
  ·rw[if_neg (by rw[hc];decide)]
   have e2:slT (str (m++[x])) none (some (.int .i64 (m.length:Nat)))=some (str m):=by
    have:=zPf (l:=m++[x]) (lo:=0) (hi:=m.length) (a:=none) (b:=some (.int .i64 (m.length:Nat))) (Nat.zero_le _) (by simp) (by simp[bnd]) (by simp[bnd];omega)
    simpa using this
   rw[e2,zAa]
   refine hk _ _ ⟨m,rfl,?_,by simp at hml;omega,rfl⟩ (by show(ByteArray.mk m.toArray).size<(ByteArray.mk (m++[x]).toArray).size;rw[zGK,zGK];simp)
   rw[<- hm,zRW,if_pos hc]
  ·rw[if_pos (by rw[eq_false_of_ne_true hc];rfl)]
   refine⟨?_,by trivial⟩
   rw[<- hm,zRW,if_neg hc]
theorem zYI {H:zAd}{cs l:List UInt8}(hcs:∀ c ∈ cs,c.toNat<128)(h2:2<=cs.length)(h3:cs.length<=1000)(hl:l.length<=9223372036854775807) :
  zAg prg zEY [str l,str cs] H fun u H'=>u=str (zLs cs (zK2 cs l))/\Keep (fun _=>False) H H':=by
 apply zMO
 unfold zMN
 have e1:zP4 .eql ⟨l.toArray⟩ ⟨#[]⟩=some (.bool (decide (l=[]))):=zN1 (b:=[])
 have e2:zP4 .eql ⟨cs.toArray⟩ ⟨#[]⟩=some (.bool (decide (cs=[]))):=zN1 (b:=[])
 have hne:decide (cs=[])=false:=by cases cs <;> simp at h2 ⊢
 simp only[zEI,e1,e2,hne,zAa,zAF,zAl,zDU]
 by_cases h0:l=[]
 ·subst h0
  simp only[decide_true,Bool.true_eq_false,if_false,zAe,if_true,zAa,zAc]
  exact⟨rfl,Keep.refl⟩
 ·have hd:decide (l=[])=false:=by simpa using h0
  have hn1:((cs.length:Int) == 1)=false:=by simp;omega
  simp only[hd,if_true,zAe,Bool.false_eq_true,if_false,zAa,zAc,zAi,zA9,hn1,zAl]
  refine zAk (zRu hcs h3) ?_
  rintro _ h1 ⟨rfl,k1⟩
  simp only[zPd,List.getElem?_toArray,List.getElem?_cons_succ,List.getElem?_cons_zero,zAa,zAfn,zAs]
  have hq:(h1.push (.cells (zOI []).toArray zBa (0,0)))[h1.size]? = some (.cells (zOI []).toArray zBa (0,0)):=zAR
  rw[zAfp hq,zAm,zAc,if_pos rfl]
  have hq2:=zAt (y := .cells (zOI cs).toArray zBa (0,0)) hq
  refine zAk (zP0 hq2 hl) ?_
  rintro _ _ ⟨rfl,rfl⟩
  refine zAk (zQO hq2) ?_
  rintro _ _ ⟨rfl,rfl⟩
  refine⟨rfl,?_⟩
  have:=k1.1
  refine⟨by simp;omega,fun i hi _=>?_⟩
  rw[Array.getElem?_setIfInBounds,if_neg (by omega),Array.getElem?_push,if_neg (by omega),k1.2 i hi id]
theorem zKG {args:Array Value}:xtV prg zDC args=Extern.BytealgIndexByte.indexByte args:=by kernel_rfl
theorem zU4 {H:zAd}{l:List UInt8}{x:UInt8}:zAg prg zGF [str l,.int .u8 x.toNat] H fun u H'=>u = .int .i64 (Lib.indexByte l x)/\H=H':=by
 apply zKn
 unfold zJi
 refine zAg.mono (R:=fun u H'=>u = .int .i64 (Lib.indexByte l x)/\H=H') ?_ fun u h hR=>hR
 apply zCL
 unfold zCl
 intro w hw
 refine⟨_,w,by rw[zKG];exact Lib.run_indexByteString _ _ w,zHd.rfl' w,?_,hw.symm⟩
 simp
def azL:List UInt8:=[97,98,99,100,101,102,103,104,105,106,107,108,109,110,111,112,113,114,115,116,117,118,119,120,121,122]
def zRv:List UInt8:=azL++[48,49,50,51,52,53,54,55,56,57]
def zRw:List UInt8:=zRv++[45]
def zG2 (l:List UInt8):Bool:=decide (l≠[]) && decide (l.length<=32) && decide (∀ x ∈ l,zRw.contains x=true) && decide (Lib.indexByte azL (l.headD 0)>=0)
theorem zV4 {H:zAd}{l:List UInt8}(hl:l.length<=9223372036854775807):zAg prg zEc [str l] H fun u H'=>u = .bool (zG2 l)/\Keep (fun _=>False) H H':=by
 apply zMh
 unfold zL3
 have e1:zP4 .neq ⟨l.toArray⟩ ⟨#[]⟩=some (.bool (!decide (l=[]))):=zUX (b:=[])
 simp only[zEI,e1,zAa,zAF,zAl,zDU,zAi,zA9]
 cases l with
 | nil=>simp[zG2,Keep.refl]
 | cons x l =>
  have hd:(!decide (x :: l=[]))=true:=by simp
  have hi:ixT (str (x :: l)) (.int .i64 0)=some (.int .u8 x.toNat):=zI4 (i:=0) rfl
  simp only[hd,if_true,zAe,zAa]
  by_cases h32:(((x :: l).length:Nat):Int)<=32
  ·have h32':(x :: l).length<=32:=by omega
   simp only[h32,decide_true,zAl,if_true]
   refine zAk (zYI (cs:=zRw) (by decide) (by decide) (by decide) hl) ?_
   rintro _ h1 ⟨rfl,k1⟩
   have e3:zP4 .eql ⟨(zLs zRw (zK2 zRw (x :: l))).toArray⟩ ⟨#[]⟩=some (.bool (decide (zLs zRw (zK2 zRw (x :: l))=[]))):=zN1 (b:=[])
   have e4:decide (zLs zRw (zK2 zRw (x :: l))=[])=decide (∀ y ∈ x :: l,zRw.contains y=true):=by rw[decide_eq_decide];exact zV3
   simp only[zEI,e3,e4,zAa]
   by_cases ha:∀ y ∈ x :: l,zRw.contains y=true
   ·simp only[decide_eq_true ha,zAl,if_true,hi,zAa]
    refine zAk (zU4 (l:=azL) (x:=x)) ?_
    rintro _ _ ⟨rfl,rfl⟩
    simp only[zAi,zA9,zAe,if_true,zAa]
    refine⟨?_,k1⟩
    unfold zG2
    rw[decide_eq_true ha,decide_eq_true h32']
    simp
   ·simp only[decide_eq_false ha,zAl,Bool.false_eq_true,if_false,zAe,zAa]
    refine⟨?_,k1⟩
    unfold zG2
    rw[decide_eq_false ha];simp
  ·have h32':¬ (x :: l).length<=32:=by omega
   simp only[h32,decide_false,zAl,Bool.false_eq_true,if_false,zAe,zAa]
   refine⟨?_,Keep.refl⟩
   unfold zG2
   rw[decide_eq_false h32'];simp
def Row (F:Nat->Prop)(H:zAd)(v:Value)(l:List UInt8):Prop :=
 (v = .slice none 0 0/\l=[])\/∃ b c cs,v = .slice (some ⟨b,0,none⟩) l.length c/\F b/\l.length<=c/\H[b]? = some (.cells cs zAS (0,0))/\c<=cs.size/\0<c/\cs.toList.take l.length=zAy l
theorem Row.one {F:Nat->Prop}{H:zAd}{v:Value}{l:List UInt8}(h:Row F H v l):v.oneCell'=true:=by
 rcases h with ⟨rfl,_⟩ | ⟨b,c,cs,rfl,_⟩ <;> rfl
theorem Row.len {F:Nat->Prop}{H:zAd}{v:Value}{l:List UInt8}(h:Row F H v l):zBO v=some (.int .i64 l.length):=by
 rcases h with ⟨rfl,rfl⟩ | ⟨b,c,cs,rfl,_⟩ <;> rfl
theorem Row.keep {F S:Nat->Prop}{H H':zAd}{v:Value}{l:List UInt8}(h:Row F H v l)(k:Keep S H H')(hs:∀ b,F b->¬ S b):Row F H' v l:=by
 rcases h with h | ⟨b,c,cs,rfl,hf,hc,hb,hr⟩
 ·exact .inl h
 ·exact .inr ⟨b,c,cs,rfl,hf,hc,k.at hb (hs b hf),hr⟩
theorem Row.app {F:Nat->Prop}{H:zAd}{s x:Value}{l m:List UInt8}{k:Value->zAd->Prop}(h:Row F H s l)(hx:Bs H x m)(hlen:l.length+m.length<=140737488355328)(hf:F H.size)
  (hk:∀ v H',Row F H' v (l++m)->Keep F H H'->k v H'):zIV zAS 1 1 H s x k:=by
 rcases h with ⟨rfl,rfl⟩ | ⟨b,c,cs,rfl,hb',hc,hb,hle,h0c,hl⟩
 ·refine⟨none,0,0,m.length,(zAy m).toArray,rfl,hx,zGT,fun h0=>?_,fun h0=>⟨by simpa using hlen,Nat.one_pos,#[],rfl,fun cap rest h1 h2 h3=>?_⟩⟩
  ·have:m=[]:=List.length_eq_zero_iff.1 (by omega)
   subst this
   exact hk _ _ (.inl ⟨rfl,rfl⟩) Keep.refl
  ·refine hk _ _ (.inr ⟨H.size,cap,_,by simp,hf,by simpa using h1,zAR,?_,by omega,?_⟩) Keep.push
   ·simp at h3 ⊢;omega
   ·simp
 ·refine⟨some ⟨b,0,none⟩,l.length,c,m.length,(zAy m).toArray,rfl,hx,zGT,fun h0=>?_,fun h0=>⟨by simpa using hlen,Nat.one_pos,(zAy l).toArray,?_,fun cap rest h1 h2 h3=>?_⟩⟩
  ·refine⟨_,zNI hb _ _ zI3 (by simp;omega) zGT,hk _ _ (.inr ⟨b,c,_,by simp,hb',by simpa using h0,zAt hb,?_,h0c,?_⟩) (Keep.set hb')⟩
   ·rw[zIA (by simp;omega)];exact hle
   ·show(List.take (0+l.length * 1) cs.toList++zAy m++_).take (l++m).length=_
    rw[Nat.mul_one,Nat.zero_add,hl,List.take_append_of_le_length (by simp),<- zHv,List.take_of_length_le (by simp)]
  ·exact Bs.mk hb rfl (by omega) (by simpa using hl)
  ·refine hk _ _ (.inr ⟨H.size,cap,_,by simp,hf,by simpa using h1,zAR,?_,by omega,?_⟩) Keep.push
   ·simp at h3 ⊢;omega
   ·show(((zAy l).toArray++(zAy m).toArray++rest).toList).take (l++m).length=_
    simp only[Array.toList_append];rw[List.take_append_of_le_length (by simp),<- zHv,List.take_of_length_le (by simp)]
def BAt (F:Nat->Prop)(p:Nat)(H:zAd)(l:List UInt8):Prop :=
 ¬ F p/\∃ a v,H[p]? = some (.cells #[a,v] zAI (0,0))/\(a = .pointer none\/a=Ptr p 0)/\Row F H v l
theorem BAt.keep {F S:Nat->Prop}{p:Nat}{H H':zAd}{l:List UInt8}(h:BAt F p H l)(k:Keep S H H')(hs:∀ b,Wr F p b->¬ S b):BAt F p H' l:=by
 obtain⟨h1,a,v,h2,h3,h4⟩:=h
 exact⟨h1,a,v,k.at h2 (hs p (.inr rfl)),h3,h4.keep k fun b hb=>hs b (.inl hb)⟩
theorem zTS:zAB prg zAI=some #[.pointer none,.slice none 0 0]:=by kernel_rfl
theorem zU5 {args:Array Value}:xtV prg zHs args=Extern.AbiNoEscape.same args:=by kernel_rfl
theorem zAh1:prg.underlying zGI=some (.pointer zAI):=by kernel_rfl
theorem zAh2:prg.underlying zI2=some .unsafePointer:=by kernel_rfl
theorem i_B:∃ j,prg.info? zAI=some j/\j.size≠0:=by
 have h:(match prg.info? zAI with | some j=>j.size != 0 | none=>false)=true:=by kernel_rfl
 split at h
 ·rename_i j hj;exact⟨j,hj,by simpa using h⟩
 ·cases h
theorem zAfq:liesAt prg prg.depth zAI (2 / prg.cellsOf zAI) 0 zAI 1=true:=by kernel_rfl
theorem zQP {F:Nat->Prop}{p:Nat}{H:zAd}{l:List UInt8}(h:BAt F p H l) :
  zAg prg zBz [Ptr p 0] H fun u H'=>u = .tuple #[]/\BAt F p H' l/\Keep (· = p) H H':=by
 apply zG9
 unfold zFf
 obtain⟨hF,a,v,hp,ha,hr⟩:=h
 have d0:ld1 H (Ptr p 0)=some a:=by rw[zPM hp];rfl
 simp only[zFA,zAx,zAa,Nat.zero_add,d0]
 rcases ha with rfl | rfl
 ·have e:zAh .ptr .eql (.pointer none) (.pointer none)=some (.bool true):=rfl
  simp only[e,zAa,zAc,if_true]
  obtain⟨j,hj,hj0⟩:=i_B
  intro w hw
  have hsh:w.shape? p=some (zAI,2):=by simp[World.shape?,hw,hp]
  refine⟨_,w,Lib.run_to_unsafe w ⟨p,0,none⟩ zAh1 zAh2 hj hj0 hsh (by show 0<2;omega),zHd.rfl' w,?_⟩
  rw[hw]
  intro w hw
  refine⟨Ptr p 0,w,by rw[zU5];exact Lib.run_noEscape w _,zHd.rfl' w,?_⟩
  rw[hw]
  intro w hw
  have hsh:w.shape? p=some (zAI,2):=by simp[World.shape?,hw,hp]
  refine⟨_,w,Lib.run_from_unsafe w ⟨p,0,none⟩ zAh2 zAh1 hj hsh zAfq,zHd.rfl' w,?_⟩
  rw[hw]
  show Mwr (st1 H (Ptr p 0) (Ptr p 0)) (fun h4=>True/\BAt F p h4 l/\Keep (fun x=>x=p) H h4)
  rw[zVX hp 0 _ (by simp) rfl,zAm]
  have k1:Keep (· = p) H (H.setIfInBounds p (.cells (#[.pointer none,v].setIfInBounds 0 (Ptr p 0)) zAI (0,0))):=Keep.set rfl
  exact⟨by trivial,⟨hF,Ptr p 0,v,by rw[zAt hp];rfl,.inr rfl,hr.keep k1 fun b hb e=>hF (e ▸ hb)⟩,k1⟩
 ·have e:zAh .ptr .eql (Ptr p 0) (.pointer none)=some (.bool false):=rfl
  have e2:zAh .ptr .neq (Ptr p 0) (Ptr p 0)=some (.bool false):=by
   show(eqV .ptr (.pointer (some ⟨p,0,none⟩)) (.pointer (some ⟨p,0,none⟩))).map (fun b=>Value.bool (!b))=_
   simp[eqV]
  simp only[e,e2,zAa,zAc,Bool.false_eq_true,if_false]
  exact⟨by trivial,⟨hF,Ptr p 0,v,hp,.inr rfl,hr⟩,Keep.refl⟩
theorem BAt.ld {F:Nat->Prop}{p:Nat}{H:zAd}{l:List UInt8}(h:BAt F p H l):∃ v,ld1 H (Ptr p 1)=some v/\Row F H v l/\∀ (x:Value) (H':zAd),H'[p]? = H[p]?->x.oneCell'=true->∃ H2,st1 H' (Ptr p 1) x=some H2/\Keep (· = p) H' H2/\∀ m,Row F H' x m->BAt F p H2 m:=by
 obtain⟨hF,a,v,hp,ha,hr⟩:=h
 refine⟨v,by rw[zPM hp];rfl,hr,fun x H' hH hx=>?_⟩
 rw[hp]at hH
 refine⟨_,zVX hH 1 x (by simp) hx,Keep.set rfl,fun m hm=>⟨hF,a,x,by rw[zAt hH];rfl,ha,hm.keep (Keep.set (S:=(· = p)) rfl) fun b hb e=>hF (e ▸ hb)⟩⟩
theorem zFR {F:Nat->Prop}{p:Nat}{H:zAd}{l m:List UInt8}(h:BAt F p H l)(hlen:l.length+m.length<=140737488355328)(hf:∀ b,H.size<=b->F b) :
  zAg prg zAK [Ptr p 0,str m] H fun u H'=>u = .tuple #[.int .i64 m.length,.nilIface]/\BAt F p H' (l++m)/\Keep (Wr F p) H H':=by
 apply zGg
 unfold zEy
 refine zAk (zQP h) ?_
 rintro _ h1 ⟨rfl,hb,k1⟩
 obtain⟨v,hld,hr,hst⟩:=hb.ld
 simp only[zFA,zAx,zAa,Nat.zero_add,hld]
 refine hr.app zAck hlen (hf _ k1.1) fun x h2 hx k2=>?_
 obtain⟨h3,he,k3,hB⟩:=hst x h2 (k2.2 p (by obtain⟨_,a,v,hp,_⟩:=hb;exact lt_of hp) hb.1) hx.one
 simp only[he,zAm,zDU,zAa]
 exact⟨trivial,hB _ hx,((k1.mono fun _ _ h => .inr h).trans (k2.mono fun _ _ h => .inl h)).trans (k3.mono fun _ _ h => .inr h)⟩
theorem zSC {args:Array Value}:∃ t,prg.underlying t=some (.slice zAS)/\∃ ps,xtV prg zES args=Extern.BytealgMakeNoZero.makeNoZero ps #[t] args :=
 ⟨zDq,by kernel_rfl,#[],by kernel_rfl⟩
theorem zAfr {F:Nat->Prop}{p n:Nat}{H:zAd}(h:BAt F p H [])(hn:n<=140737488355328)(hnil:∃ a,H[p]? = some (.cells #[a,.slice none 0 0] zAI (0,0)))(hf:∀ b,H.size<=b->F b) :
  zAg prg zE3 [Ptr p 0,.int .i64 n] H fun u H'=>u = .tuple #[]/\BAt F p H' []/\Keep (Wr F p) H H':=by
 apply zI6
 unfold zHy
 have hF:=h.1
 obtain⟨a,hp⟩:=hnil
 have hcc:zAg prg zBz [Ptr p 0] H fun u H'=>u = .tuple #[]/\BAt F p H' []/\Keep (· = p) H H'/\∃ a,H'[p]? = some (.cells #[a,.slice none 0 0] zAI (0,0)):=by
  have ha:a = .pointer none\/a=Ptr p 0:=by
   obtain⟨_,a',v',hp',ha',_⟩:=h
   rw[hp]at hp';simp at hp';rw[hp'.1];exact ha'
  have hnone:BAt (fun _=>False) p H []:=⟨id,a,_,hp,ha,.inl ⟨rfl,rfl⟩⟩
  refine(zQP hnone).mono ?_
  rintro u h1 ⟨hu,⟨_,a1,v1,hp1,ha1,hr1⟩,k1⟩
  rcases hr1 with ⟨rfl,_⟩ | ⟨b,c,cs,rfl,hfb,_⟩
  ·exact⟨hu,⟨hF,a1,_,hp1,ha1,.inl ⟨rfl,rfl⟩⟩,k1,a1,hp1⟩
  ·exact hfb.elim
 refine zAk hcc ?_
 rintro _ h1 ⟨rfl,hb,k1,a1,hp1⟩
 have d1:ld1 h1 (Ptr p 1)=some (.slice none 0 0):=by rw[zPM hp1];rfl
 have e0:¬ ((n:Int)<0):=by omega
 have hc:zAb6 (.slice none 0 0)=some (.int .i64 (0:Nat)):=rfl
 have hl:zBO (.slice none 0 0)=some (.int .i64 (0:Nat)):=rfl
 have w0:IntKind.i64.wrap (((0:Nat):Int) - ((0:Nat):Int))=0:=rfl
 simp only[zAi,zA9,e0,decide_false,zAa,zAc,Bool.false_eq_true,if_false,zYp,zFA,zAx,Nat.zero_add,d1,hc,hl,w0,decide_eq_true_eq]
 have kk:Keep (Wr F p) H h1:=k1.mono fun _ _ h => .inr h
 by_cases hn0:(0:Int)<n
 ·rw[if_pos hn0]
  refine zAk (R:=fun u H'=>u = .tuple #[]/\BAt F p H' []/\Keep (Wr F p) h1 H') ?_ fun u h2 ⟨hu,hb2,k2⟩=>⟨by trivial,hb2,kk.trans k2⟩
  apply zI8
  unfold zHA
  have w1:IntKind.i64.wrap (2 * ((0:Nat):Int))=0:=rfl
  have w2:IntKind.i64.wrap (0+(n:Int))=(n:Nat):=by rw[zAM] <;> omega
  simp only[zFA,zAx,zAa,Nat.zero_add,d1,hc,hl,zAi,zA9,w1,w2]
  obtain⟨t,ht,ps,hxt⟩:=zSC (args:=#[.int .i64 n])
  rw[hxt]
  intro w hw
  obtain⟨cs,hrun,hsz,_⟩:=Lib.run_makeNoZero (P:=prg) w ps t zAS ht n (by omega)
  refine⟨_,_,hrun,⟨rfl,rfl,rfl,zDL.push⟩,?_⟩
  have hheap:(w.drew.drew.alloc (.cells cs zAS)).heap=h1.push (.cells cs zAS (0,0)):=by rw[<- hw];rfl
  have hws:w.heap.size=h1.size:=by rw[hw]
  rw[hheap,hws]
  have hp2:=zP9 (y := .cells cs zAS (0,0)) hp1
  have d2:ld1 (h1.push (.cells cs zAS (0,0))) (Ptr p 1)=some (.slice none 0 0):=by rw[zPM hp2];rfl
  have hsl:slS 1 (.slice (some ⟨h1.size,0,none⟩) n cs.size) none (some (.int .i64 (0:Nat))) none=some (.slice (some ⟨h1.size,0,none⟩) 0 cs.size):=by
   have:cs.size≠0:=by omega
   simp[slS,zKt,bnd,this]
  simp only[d2,zVV,zAr,true_and,hsl,zAa]
  have hq:(h1.push (.cells cs zAS (0,0)))[h1.size]? = some (.cells cs zAS (0,0)):=zAR
  refine zAgY hq (Nat.zero_le _) rfl ?_
  have hb2:=hb.keep (S:=fun _=>False) (Keep.push (o := .cells cs zAS (0,0))) fun _ _=>id
  rw[zVX hp2 1 _ (by simp) rfl,zAm]
  have k3:Keep (· = p) (h1.push (.cells cs zAS (0,0))) ((h1.push (.cells cs zAS (0,0))).setIfInBounds p (.cells (#[a1,.slice none 0 0].setIfInBounds 1 (.slice (some ⟨h1.size,0,none⟩) 0 cs.size)) zAI (0,0))):=Keep.set rfl
  have hpn:h1.size≠p:=fun e=>by have:=lt_of hp1;omega
  refine⟨?_,Keep.push.trans (k3.mono fun _ _ h => .inr h)⟩
  have ha1:a1 = .pointer none\/a1=Ptr p 0:=by
   obtain⟨_,a',v',hp',ha',_⟩:=hb
   rw[hp1]at hp';simp at hp';rw[hp'.1];exact ha'
  exact⟨hF,a1,_,by rw[zAt hp2];rfl,ha1,.inr ⟨h1.size,cs.size,cs,rfl,hf _ k1.1,Nat.zero_le _,k3.at hq hpn,Nat.le_refl _,by omega,rfl⟩⟩
 ·rw[if_neg hn0]
  exact⟨trivial,hb,kk⟩
theorem zLR {w:World}{b n:Nat}:(w.freeze ⟨b,0,none⟩ n).heap.size=w.heap.size/\(∀ i:Nat,i≠b->(w.freeze ⟨b,0,none⟩ n).heap[i]? = w.heap[i]?)/\∀ (i:Nat) (ds:Option (List Deferred)),w.heap[i]? = some (Obj.deferred ds)->(w.freeze ⟨b,0,none⟩ n).heap[i]? = some (Obj.deferred ds):=by
 unfold World.freeze
 split
 ·exact⟨rfl,fun _ _=>rfl,fun _ _ h=>h⟩
 ·refine⟨by simp,fun i hi=>?_,fun i ds h=>?_⟩
  ·simp only[Array.getElem?_modify];rw[if_neg (Ne.symm hi)]
  ·simp only[Array.getElem?_modify]
   split
   ·rw[h];rfl
   ·exact h
theorem zAfs:∃ t,(218:Nat)=t/\prg.underlying t=some (.pointer zAS):=⟨218,rfl,by kernel_rfl⟩
theorem zAh3:prg.cellsOf zAS=1:=by kernel_rfl
theorem zTT {F:Nat->Prop}{p:Nat}{H:zAd}{l:List UInt8}(h:BAt F p H l)(hl:l.length<=140737488355328) :
  zAg prg zCS [Ptr p 0] H fun u H'=>u=str l/\Keep F H H':=by
 apply zIg
 unfold zGh
 obtain⟨v,hld,hr,_⟩:=h.ld
 simp only[zFA,zAx,zAa,Nat.zero_add,hld,hr.len]
 rcases hr with ⟨rfl,rfl⟩ | ⟨b,c,cs,rfl,hf,hc,hb,hle,h0c,hcs⟩
 ·have e:usd (.slice none 0 0)=some (.pointer none):=rfl
  rw[e,zAa]
  intro w hw
  refine⟨_,w,Lib.run_unsafeString_none w _ _ _ none,zHd.rfl' w,?_,by rw[hw];exact Keep.refl⟩
  rfl
 ·have e:usd (.slice (some ⟨b,0,none⟩) l.length c)=some (Ptr b 0):=by simp only[usd];rw[if_pos (by omega)]
  rw[e,zAa]
  intro w hw
  by_cases h0:l=[]
  ·subst h0
   refine⟨_,w,Lib.run_unsafeString_none w _ _ _ _,zHd.rfl' w,?_,by rw[hw];exact Keep.refl⟩
   rfl
  ·obtain⟨t,ht,hu⟩:=zAfs
   have hsh:w.shape? b=some (zAS,cs.size):=by simp[World.shape?,hw,hb]
   refine⟨_,_,Lib.run_unsafeString_row w _ _ _ zAS (by rw[ht];exact hu) zAh3 b cs.size hsh l h0 (by omega) (by omega) ?_,?_,rfl,?_⟩
   ·intro j x hx
    have hlt:=(List.getElem?_eq_some_iff.1 hx).1
    have:(zAy l)[j]? = some (.int .u8 x.toNat):=by simp[zAy,hx]
    rw[<- hcs,List.getElem?_take,if_pos hlt]at this
    have e:(⟨b,0,none⟩:Addr).add j=⟨b,j,none⟩:=by
     unfold Addr.add;split
     ·rename_i h;subst h;rfl
     ·simp
    rw[e]
    unfold World.cell?
    simp only[hw,hb]
    rw[<- Array.getElem?_toList];exact this
   ·obtain⟨_,_,h3⟩:=zLR (w:=w) (b:=b) (n:=l.length)
    refine⟨?_,?_,?_,h3⟩ <;> (unfold World.freeze;split <;> rfl)
   ·obtain⟨h1,h2,_⟩:=zLR (w:=w) (b:=b) (n:=l.length)
    rw[hw]at h1 h2
    exact⟨Nat.le_of_eq h1.symm,fun i _ hn=>h2 i fun e=>hn (e ▸ hf)⟩
def zNF (sep:List UInt8):List (List UInt8)->List UInt8
 | []=>[]
 | x :: xs=>x++(xs.map (sep ++ ·)).flatten
def total (l:List (List UInt8)):Nat:=l.flatten.length
theorem zNg {l:List (List UInt8)}{i:Nat}{x:List UInt8}(h:l[i]? = some x):total (l.take (i+1))=total (l.take i)+x.length:=by
 obtain⟨hlt,rfl⟩:=List.getElem?_eq_some_iff.1 h
 unfold total
 rw[show l.take (i+1)=l.take i++[l[i]] by rw[List.take_add_one,List.getElem?_eq_getElem hlt];rfl,List.flatten_append];simp
theorem zOJ {l:List (List UInt8)}{i:Nat}:total (l.take i)<=total l:=by
 unfold total
 conv=>rhs;rw[<- List.take_append_drop i l,List.flatten_append,List.length_append]
 omega
theorem zRX {sep:List UInt8}{l:List (List UInt8)}:((l.map (sep ++ ·)).flatten).length=sep.length * l.length+total l:=by
 unfold total
 induction l with
 | nil=>simp
 | cons x l ih=>simp only[List.map_cons,List.flatten_cons,List.length_append,List.length_cons,ih,Nat.mul_succ];omega
theorem zU6 {sep:List UInt8}{l:List (List UInt8)}{i:Nat}{x:List UInt8}(h:l[i]? = some x):((l.take (i+1)).map (sep ++ ·)).flatten=(((l.take i).map (sep ++ ·)).flatten++sep)++x:=by
 obtain⟨hlt,rfl⟩:=List.getElem?_eq_some_iff.1 h
 rw[show l.take (i+1)=l.take i++[l[i]] by rw[List.take_add_one,List.getElem?_eq_getElem hlt];rfl,List.map_append,List.flatten_append];simp
abbrev zOh (l:List (List UInt8)):List (List Value):=zFB (l.map str)
theorem zSD {l:List (List UInt8)}{i:Nat}{x:List UInt8}(h:l[i]? = some x):(zOh l)[i]? = some [str x]:=zLe (by simp[h])
@[simp] theorem zLS {l:List (List UInt8)}:(zOh l).length=l.length:=by simp[zOh]
theorem zAcp {P:Nat->Prop}{H:zAd}{v:Value}{sep:List UInt8}{l:List (List UInt8)}(hv:SlE 1 P H v (zOh l))(hP:∀ b,P b->b<H.size)(hn:l.length<=1048576)(hs:sep.length<=1048576)(ht:total l<=1099511627776) :
  zAg prg zIy [v,str sep] H fun u H'=>u=str (zNF sep l)/\Keep (fun _=>False) H H':=by
 apply zMM
 unfold zML
 have hlen:=hv.len
 rw[zLS]at hlen
 simp only[hlen,zAa,zAi,zA9,zAc]
 match l,hv,hn,ht,hlen with
 | [],_,_,_,_=>rw[if_pos (by rfl)];exact⟨rfl,Keep.refl⟩
 | [x],hv,_,_,_ =>
  rw[if_neg (by simp),if_pos (by rfl)]
  obtain⟨b,o,hix,hpt,_⟩:=hv.at (i:=0) (x:=[str x]) rfl
  have hix:ixS 1 v (.int .i64 0)=some (Ptr b o):=hix .i64
  rw[hix,zAa,hpt.cell0 rfl,zAa]
  exact⟨by simp[zNF],Keep.refl⟩
 | x :: y :: l,hv,hn,ht,hlen =>
  generalize hL:x :: y :: l=L at *
  have hL2:2<=L.length:=by rw[<- hL];simp
  have hL0:L[0]? = some x:=by rw[<- hL];rfl
  have n0:((L.length:Int) == 0)=false:=by rw[beq_eq_false_iff_ne];omega
  have n1:((L.length:Int) == 1)=false:=by rw[beq_eq_false_iff_ne];omega
  rw[n0,if_neg (by decide),n1,if_neg (by decide)]
  have w1:IntKind.i64.wrap ((L.length:Int) - 1)=((L.length - 1:Nat):Int):=by rw[zAM] <;> omega
  have hq:(1:Int)<=Int.tdiv 9223372036854775807 ((L.length - 1:Nat):Int)/\Int.tdiv 9223372036854775807 ((L.length - 1:Nat):Int)<=9223372036854775807/\(sep.length:Int)<Int.tdiv 9223372036854775807 ((L.length - 1:Nat):Int):=by
   rw[Int.tdiv_eq_ediv_of_nonneg (by omega)]
   have h1:(8796093022207:Int)<=9223372036854775807 / ((L.length - 1:Nat):Int):=by
    rw[Int.le_ediv_iff_mul_le (by omega)]
    have:((L.length - 1:Nat):Int)<=1048576:=by omega
    omega
   have h2:9223372036854775807 / ((L.length - 1:Nat):Int)<=9223372036854775807:=Int.ediv_le_self _ (by omega)
   omega
  have w2:IntKind.i64.wrap (Int.tdiv 9223372036854775807 ((L.length - 1:Nat):Int))=Int.tdiv 9223372036854775807 ((L.length - 1:Nat):Int):=by rw[zAM] <;> omega
  have w3:IntKind.i64.wrap ((sep.length:Int) * ((L.length - 1:Nat):Int))=((sep.length * (L.length - 1):Nat):Int):=by
   have hb:sep.length * (L.length - 1)<=1048576 * 1048576:=Nat.mul_le_mul hs (by omega)
   rw[zAM] <;> rw[<- Int.natCast_mul] <;> omega
  have hb:sep.length * (L.length - 1)<=1099511627776:=Nat.le_trans (Nat.mul_le_mul hs (show L.length - 1<=1048576 by omega)) (by decide)
  have w4:IntKind.i64.wrap (0+((sep.length * (L.length - 1):Nat):Int))=((sep.length * (L.length - 1):Nat):Int):=by rw[zAM] <;> omega
  have hne:¬ (((L.length - 1:Nat):Int)=0):=by omega
  have hng:¬ ((sep.length:Int)>=Int.tdiv 9223372036854775807 ((L.length - 1:Nat):Int)):=by omega
  refine zL2 (fun x h=>x = .int .i64 ((sep.length * (L.length - 1):Nat):Int)/\H=h) (fun k hk=>?_) ?_
  ·simp only[zDU,zAa,zAi,zA9,zAc,decide_eq_true_eq,zYp,w1]
   by_cases hs0:(sep.length:Int) > 0
   ·rw[if_pos hs0]
    simp only[hlen,zAa,zAi,zA9,zAc,decide_eq_true_eq,w1,if_neg hne,w2,if_neg hng,w3,w4]
    exact hk _ _ ⟨rfl,rfl⟩
   ·rw[if_neg hs0]
    have hs0':sep.length=0:=by omega
    exact hk _ _ ⟨by rw[hs0',Nat.zero_mul];rfl,rfl⟩
  ·rintro _ _ ⟨rfl,rfl⟩
   simp only[zYq]
   refine zTf (fun n i h=>∃ j:Nat,j<=L.length/\i = .int .i64 (j:Nat)/\n = .int .i64 ((sep.length * (L.length - 1)+total (L.take j):Nat):Int)/\H=h) (fun _ i _=>match i with | .int _ i=>L.length - i.toNat | _=>0)
    ⟨0,Nat.zero_le _,rfl,by simp[total],rfl⟩ ?_
   rintro _ _ _ ⟨j,hj,rfl,rfl,rfl⟩ k hk
   simp only[zAi,zA9,zAa,zAc,decide_eq_true_eq,zYp]
   have htj:=zOJ (l:=L) (i:=j)
   by_cases hlt:(j:Int)<L.length
   ·rw[if_pos hlt]
    have hlt':j<L.length:=by omega
    have hg:L[j]? = some L[j]:=List.getElem?_eq_getElem hlt'
    obtain⟨b,o,hix,hpt,_⟩:=hv.at (zSD hg)
    have htj1:=zOJ (l:=L) (i:=j+1)
    rw[zNg hg]at htj1
    have e1:IntKind.i64.wrap (9223372036854775807 - ((sep.length * (L.length - 1)+total (L.take j):Nat):Int))=9223372036854775807 - ((sep.length * (L.length - 1)+total (L.take j):Nat):Int):=by rw[zAM] <;> omega
    have e2:IntKind.i64.wrap (((sep.length * (L.length - 1)+total (L.take j):Nat):Int)+(L[j].length:Int))=((sep.length * (L.length - 1)+total (L.take (j+1)):Nat):Int):=by rw[zNg hg,zAM] <;> omega
    have e3:IntKind.i64.wrap ((j:Int)+1)=(j+1:Nat):=by rw[zAM] <;> omega
    simp only[hix,zAa,hpt.cell0 rfl,zDU,zAi,zA9,e1,e2,e3,zAc,decide_eq_true_eq]
    rw[if_neg (by omega)]
    exact hk _ _ _ ⟨j+1,hlt',rfl,rfl,rfl⟩ (by show L.length - (j+1)<L.length - j;omega)
   ·rw[if_neg hlt]
    obtain rfl:j=L.length:=by omega
    rw[List.take_length]
    simp only[zTS,zAs,zAF]
    generalize hp:H.size=p at *
    generalize hH1:H.push (.cells #[.pointer none,.slice none 0 0] zAI (0,0))=H1
    have k1:Keep (fun _=>False) H H1:=by rw[<- hH1];exact Keep.push
    have hs1:H1.size=p+1:=by rw[<- hH1];simp[hp]
    have hp1:H1[p]? = some (.cells #[.pointer none,.slice none 0 0] zAI (0,0)):=by rw[<- hH1,<- hp];exact zAR
    have hB:BAt (p < ·) p H1 []:=⟨Nat.lt_irrefl _,_,_,hp1,.inl rfl,.inl ⟨rfl,rfl⟩⟩
    refine zAk (zAfr hB (by omega) ⟨_,hp1⟩ fun b hb=>by omega) ?_
    rintro _ H2 ⟨rfl,hB2,k2⟩
    have k02:Keep (p <= ·) H H2:=(k1.mono fun _ _ h=>h.elim).trans (k2.mono fun b _ h=>by rcases h with h | h <;> omega)
    obtain⟨b,o,hix,hpt,_⟩:=(hv.keep k02 fun b hb hb'=>by have:=hP b hb;omega).at (zSD hL0)
    have hix:ixS 1 v (.int .i64 0)=some (Ptr b o):=hix .i64
    have hx0:x.length<=1099511627776:=by
     have:=zNg hL0
     have:=zOJ (l:=L) (i:=0+1)
     omega
    simp only[hix,zAa,hpt.cell0 rfl]
    refine zAk (zFR hB2 (by simp;omega) fun b hb=>by have:=k02.1;have:=k2.1;omega) ?_
    rintro _ H3 ⟨rfl,hB3,k3⟩
    have k03:Keep (p <= ·) H H3:=k02.trans (k3.mono fun b _ h=>by rcases h with h | h <;> omega)
    obtain⟨u,hu,hsu⟩:=hv.cut (by rw[<- hL];simp[zOh,zFB]) (lo:=1) (hi:=L.length) (by omega) (by simp) (l:=some (.int .i64 1)) (r:=none) (by simp[bnd];omega) (fun c hc=>by simp[bnd])
    have hdrop:((zOh L).take L.length).drop 1=zOh (L.drop 1):=by
     rw[List.take_of_length_le (by simp)];simp[zOh,zFB,List.map_drop]
    rw[hdrop]at hsu
    have hlu:=hsu.len
    rw[zLS]at hlu
    simp only[hu,zAa,hlu]
    have hD:L=x :: L.drop 1:=by rw[<- hL];rfl
    have hDl:(L.drop 1).length=L.length - 1:=by simp
    generalize L.drop 1=D at *
    have hjl:zNF sep L=x++(D.map (sep ++ ·)).flatten:=by rw[hD];rfl
    have htD:total L=x.length+total D:=by rw[hD];simp[total]
    refine zHU (fun i h=>∃ j:Nat,j<=D.length/\i = .int .i64 (j:Nat)/\BAt (p < ·) p h (x++((D.take j).map (sep ++ ·)).flatten)/\Keep (p <= ·) H h/\p<h.size) (fun i _=>match i with | .int _ i=>D.length - i.toNat | _=>0)
     ⟨0,Nat.zero_le _,rfl,by simpa using hB3,k03,by have:=k2.1;have:=k3.1;omega⟩ ?_
    rintro _ h ⟨j,hj,rfl,hBj,kj,hpj⟩ k hk
    simp only[zAi,zA9,zAa,zAc,decide_eq_true_eq]
    have hjt:((((D.take j).map (sep ++ ·)).flatten).length)=sep.length * (D.take j).length+total (D.take j):=zRX
    have htDj:=zOJ (l:=D) (i:=j)
    have hmj:sep.length * (D.take j).length<=sep.length * (L.length - 1):=Nat.mul_le_mul_left _ (by simp;omega)
    by_cases hlt:(j:Int)<D.length
    ·rw[if_pos hlt]
     have hlt':j<D.length:=by omega
     have hg:D[j]? = some D[j]:=List.getElem?_eq_getElem hlt'
     obtain⟨b,o,hix,hpt,_⟩:=(hsu.keep kj fun b hb hb'=>by have:=hP b hb;omega).at (zSD hg)
     have htj1:=zOJ (l:=D) (i:=j+1)
     rw[zNg hg]at htj1
     have e3:IntKind.i64.wrap ((j:Int)+1)=(j+1:Nat):=by rw[zAM] <;> omega
     simp only[hix,zAa,hpt.cell0 rfl,e3]
     refine zAk (zFR hBj (by simp only[List.length_append,hjt];omega) fun b hb=>by omega) ?_
     rintro _ h1 ⟨rfl,hB4,k4⟩
     refine zAk (zFR hB4 (by simp only[List.length_append,hjt];omega) fun b hb=>by have:=k4.1;omega) ?_
     rintro _ h2 ⟨rfl,hB5,k5⟩
     refine hk _ _ ⟨j+1,hlt',rfl,?_,(kj.trans (k4.mono fun b _ h=>by rcases h with h | h <;> omega)).trans (k5.mono fun b _ h=>by rcases h with h | h <;> omega),by have:=k4.1;have:=k5.1;omega⟩ (by show D.length - (j+1)<D.length - j;omega)
     rw[zU6 hg]
     simpa only[List.append_assoc] using hB5
    ·rw[if_neg hlt]
     obtain rfl:j=D.length:=by omega
     rw[List.take_length]at hBj
     have hjD:((D.map (sep ++ ·)).flatten).length=sep.length * D.length+total D:=zRX
     have hmD:sep.length * D.length<=sep.length * (L.length - 1):=by rw[hDl];exact Nat.le_refl _
     refine zAk (zTT hBj (by simp only[List.length_append,hjD];omega)) ?_
     rintro _ h2 ⟨rfl,k5⟩
     rw[hjl]
     refine⟨by trivial,Nat.le_trans kj.1 k5.1,fun i hi _=>?_⟩
     rw[k5.2 i (by have:=kj.1;omega) (by omega),kj.2 i hi (by omega)]
def zBs (n:Nat):UInt8:=UInt8.ofNat (48+n)
def zQQ (n:Nat):List UInt8:=if n<10 then [zBs n] else [zBs (n / 10),zBs (n % 10)]
theorem zAdI {H:zAd}{n:Nat}(hn:n<100):zAg prg zEm [.int .i64 n] H fun u H'=>u=str (zQQ n)/\H=H':=by
 apply zIi
 unfold zGj
 simp only[zAi,zA9,zAa,zAc,decide_eq_true_eq]
 have w1:IntKind.i64.wrap ((n:Int)+1)=(n+1:Nat):=by rw[zAM] <;> omega
 have w2:IntKind.i64.wrap ((n:Int) * 2)=(n * 2:Nat):=by rw[zAM] <;> omega
 have w3:IntKind.i64.wrap (((n * 2:Nat):Int)+2)=(n * 2+2:Nat):=by rw[zAM] <;> omega
 simp only[w1,w2,w3]
 by_cases h:(n:Int)<10
 ·rw[if_pos h]
  have hn':n<10:=by omega
  have:slT (str [48,49,50,51,52,53,54,55,56,57,97,98,99,100,101,102,103,104,105,106,107,108,109,110,111,112,113,114,115,116,117,118,119,120,121,122]) (some (.int .i64 n)) (some (.int .i64 (n+1:Nat)))=some (str (zQQ n)):=by
   rw[zPf (lo:=n) (hi:=n+1) (by omega) (by simp;omega) (by simp[bnd];omega) (by simp[bnd];omega)]
   match n,hn' with
   | 0,_=>rfl | 1,_=>rfl | 2,_=>rfl | 3,_=>rfl | 4,_=>rfl
   | 5,_=>rfl | 6,_=>rfl | 7,_=>rfl | 8,_=>rfl | 9,_=>rfl
  have this':slT (.string ⟨#[48,49,50,51,52,53,54,55,56,57,97,98,99,100,101,102,103,104,105,106,107,108,109,110,111,112,113,114,115,116,117,118,119,120,121,122]⟩) (some (.int .i64 n)) (some (.int .i64 (n+1:Nat)))=some (str (zQQ n)):=this
  rw[this',zAa]
  exact⟨by trivial,by trivial⟩
 ·rw[if_neg h]
  have hn':¬ n<10:=by omega
  generalize hs:(⟨#[48,48,48,49,48,50,48,51,48,52,48,53,48,54,48,55,48,56,48,57,49,48,49,49,49,50,49,51,49,52,49,53,49,54,49,55,49,56,49,57,50,48,50,49,50,50,50,51,50,52,50,53,50,54,50,55,50,56,50,57,51,48,51,49,51,50,51,51,51,52,51,53,51,54,51,55,51,56,51,57,52,48,52,49,52,50,52,51,52,52,52,53,52,54,52,55,52,56,52,57,53,48,53,49,53,50,53,51,53,52,53,53,53,54,53,55,53,56,53,57,54,48,54,49,54,50,54,51,54,52,54,53,54,54,54,55,54,56,54,57,55,48,55,49,55,50,55,51,55,52,55,53,55,54,55,55,55,56,55,57,56,48,56,49,56,50,56,51,56,52,56,53,56,54,56,55,56,56,56,57,57,48,57,49,57,50,57,51,57,52,57,53,57,54,57,55,57,56,57,57]⟩:ByteArray)=S
  have hS:S=⟨((List.range 100).flatMap fun i=>[zBs (i / 10),zBs (i % 10)]).toArray⟩:=by rw[<- hs];rfl
  have hlen:((List.range 100).flatMap fun i=>[zBs (i / 10),zBs (i % 10)]).length=200:=by decide
  have:slT (str ((List.range 100).flatMap fun i=>[zBs (i / 10),zBs (i % 10)])) (some (.int .i64 (n * 2:Nat))) (some (.int .i64 (n * 2+2:Nat)))=some (str (zQQ n)):=by
   rw[zPf (lo:=n * 2) (hi:=n * 2+2) (by omega) (by omega) (by simp[bnd];omega) (by rw[hlen];simp[bnd];omega)]
   congr 1
   have key:∀ m,m<100->((((List.range 100).flatMap fun i=>[zBs (i / 10),zBs (i % 10)]).take (m * 2+2)).drop (m * 2))=[zBs (m / 10),zBs (m % 10)]:=by decide
   rw[key n hn]
   unfold zQQ;rw[if_neg hn']
  rw[hS,this,zAa]
  exact⟨by trivial,by trivial⟩
structure Ver where
 p:List Int
 pre:List UInt8
structure Item where
 name:List UInt8
 ver:Ver
 sum:List UInt8
def zCt (v:Ver):List Value:=zAP .i64 v.p++[str v.pre]
def zFS (x:Item):List Value:=str x.name :: (zCt x.ver++zAy x.sum)
structure Ver.wf (v:Ver):Prop where
 p3:v.p.length=3
 pre:v.pre.length<=9223372036854775807
structure Item.wf (x:Item):Prop where
 ver:x.ver.wf
 sum:x.sum.length=32
 name:x.name.length<=9223372036854775807
theorem zBD {v:Ver}(h:v.wf):(zCt v).length=4:=by simp[zCt,h.p3]
theorem zQR {x:Item}(h:x.wf):(zFS x).length=37:=by simp[zFS,zBD h.ver,h.sum]
theorem zIB {v:Ver}:∀ c ∈ zCt v,c.oneCell'=true:=by
 intro c hc
 simp only[zCt,List.mem_append,List.mem_singleton]at hc
 rcases hc with hc | rfl
 ·exact zPj c hc
 ·rfl
theorem zYJ {x:Item}:∀ c ∈ zFS x,c.oneCell'=true:=by
 intro c hc
 simp only[zFS,List.mem_cons,List.mem_append]at hc
 rcases hc with rfl | hc | hc
 ·rfl
 ·exact zIB c hc
 ·exact bcells_one c hc
theorem zRY {l:List Value}(h:∀ c ∈ l,c.oneCell'=true):l.toArray.all (·.oneCell')=true:=by
 rw[Array.all_eq_true_iff_forall_mem];intro v hv;exact h v (by simpa using hv)
def zKH (n:Int):Bool:=!(decide (n<0) || decide (n > 999999))
def zYK (l:List UInt8):Bool:=decide (l.length<=16) && decide (∀ x ∈ l,zRv.contains x=true)
def zEX (v:Ver):Bool:=v.p.all zKH && zYK v.pre
theorem zNh {H:zAd}{v:Ver}(hv:v.wf):zAg prg zBB [.agg (zCt v).toArray] H fun u H'=>u = .bool (zEX v)/\Keep (fun _=>False) H H':=by
 apply zIF
 unfold zGV
 obtain⟨p,pre⟩:=v
 obtain⟨hp,hpre⟩:=hv
 simp only at hp hpre
 match p,hp with
 | [a,b,c],_ =>
  simp only[zAN,zAs]
  generalize hH1:H.push (.cells (zCt ⟨[a,b,c],pre⟩).toArray zAn (0,0))=H1
  have k1:Keep (fun _=>False) H H1:=by rw[<- hH1];exact Keep.push
  have hq:H1[H.size]? = some (.cells (zCt ⟨[a,b,c],pre⟩).toArray zAn (0,0)):=by rw[<- hH1];exact zAR
  have hld:ldN 3 H1 (Ptr H.size 0)=some (.agg (zAP .i64 [a,b,c]).toArray):=ldN_mid (A:=[]) (B:=zAP .i64 [a,b,c]) (C:=[str pre]) (by rw[List.nil_append];exact hq) rfl rfl
  have d3:ld1 H1 (Ptr H.size 3)=some (str pre):=zO0 hq rfl
  simp only[zAx,zAa,Nat.zero_add,hld,zAF]
  refine zHU (fun u h=>∃ i:Nat,i<=3/\u = .int .i64 (i:Nat)/\([a,b,c].take i).all zKH=true/\H1=h) (fun u _=>match u with | .int _ t=>3 - t.toNat | _=>0) ⟨0,by omega,rfl,rfl,rfl⟩ ?_
  rintro _ _ ⟨i,hi,rfl,hall,rfl⟩ k hk
  simp only[zAi,zA9,zAa,zAc,decide_eq_true_eq]
  by_cases hlt:(i:Int)<3
  ·rw[if_pos hlt]
   have hlt':i<3:=by omega
   obtain⟨x,hx⟩:∃ x,[a,b,c][i]? = some x:=⟨[a,b,c][i],List.getElem?_eq_getElem (by simpa using hlt')⟩
   have hix:ixV 3 false 1 (.agg (zAP .i64 [a,b,c]).toArray) (.int .i64 (i:Nat))=some (.int .i64 x):=by
    simp only[ixV];rw[if_pos ⟨by omega,by omega⟩]
    simpa using zFP (k := .i64) hx
   have hinc:IntKind.i64.wrap ((i:Int)+1)=(i+1:Nat):=by rw[zAM] <;> omega
   have htk:([a,b,c].take (i+1)).all zKH=(zKH x):=by
    rw[List.take_add_one,hx,List.all_append,hall];simp
   simp only[hix,zAa,zAi,zA9,zAl,zAe,hinc]
   have fin:(if zKH x=true then k (.int .i64 (i+1:Nat)) H1 else (Value.bool false = .bool (zEX ⟨[a,b,c],pre⟩)/\Keep (fun _=>False) H H1)):=by
    by_cases hox:zKH x=true
    ·rw[if_pos hox]
     exact hk _ _ ⟨i+1,hlt',rfl,by rw[htk,hox],rfl⟩ (by show 3 - (i+1)<3 - i;omega)
    ·rw[if_neg hox]
     refine⟨?_,k1⟩
     unfold zEX
     have:[a,b,c].all zKH=false:=by
      rw[List.all_eq_false]
      exact⟨x,List.mem_of_getElem? hx,hox⟩
     rw[this];rfl
   unfold zKH at fin
   by_cases h1:x<0
   ·simpa [h1] using fin
   ·by_cases h2:x > 999999
    ·simpa [h1,h2] using fin
    ·simpa [h1,h2] using fin
  ·rw[if_neg hlt]
   obtain rfl:i=3:=by omega
   have hall:[a,b,c].all zKH=true:=hall
   simp only[d3,zAa,zDU,zAi,zA9,zAl,decide_eq_true_eq]
   by_cases h16:(pre.length:Int)<=16
   ·have h16':pre.length<=16:=by omega
    simp only[h16,decide_true,if_true]
    refine zAk (zYI (cs:=zRv) (by decide) (by decide) (by decide) hpre) ?_
    rintro _ h2 ⟨rfl,k2⟩
    have e3:zP4 .eql ⟨(zLs zRv (zK2 zRv pre)).toArray⟩ ⟨#[]⟩=some (.bool (decide (zLs zRv (zK2 zRv pre)=[]))):=zN1 (b:=[])
    have e4:decide (zLs zRv (zK2 zRv pre)=[])=decide (∀ y ∈ pre,zRv.contains y=true):=by rw[decide_eq_decide];exact zV3
    simp only[zEI,e3,e4,zAa,zAe,if_true]
    refine⟨?_,k1.trans k2⟩
    unfold zEX zYK
    rw[hall,decide_eq_true h16'];simp
   ·have h16':¬ pre.length<=16:=by omega
    simp only[h16,decide_false,Bool.false_eq_true,if_false,zAe,zAa]
    refine⟨?_,k1⟩
    unfold zEX zYK
    rw[decide_eq_false h16'];simp
def Items (P:Nat->Prop)(H:zAd)(v:Value)(xs:List Item):Prop:=SlE 37 P H v (xs.map zFS)/\∀ x ∈ xs,x.wf
theorem Items.keep {P S:Nat->Prop}{H H':zAd}{v:Value}{xs:List Item}(h:Items P H v xs)(k:Keep S H H')(hs:∀ b,P b->¬ S b):Items P H' v xs:=⟨h.1.keep k hs,h.2⟩
theorem Items.len {P:Nat->Prop}{H:zAd}{v:Value}{xs:List Item}(h:Items P H v xs):zBO v=some (.int .i64 xs.length):=by have:=h.1.len;simpa using this
theorem Items.at {P:Nat->Prop}{H:zAd}{v:Value}{xs:List Item}(h:Items P H v xs){i:Nat}{x:Item}(hi:xs[i]? = some x):x.wf/\∃ b o,(∀ k,ixS 37 v (.int k i)=some (Ptr b o))/\Pt H b o (zFS x)/\P b :=
 ⟨h.2 x (List.mem_of_getElem? hi),h.1.at (by simp[hi])⟩
def zTU (a b:List UInt8):Bool:=Op.bytesLess a b
theorem zAft:∃ z:List Value,zAB prg zA2=some z.toArray/\z.length=37:=by
 have h:(match zAB prg zA2 with | some z=>z.size == 37 | none=>false)=true:=by kernel_rfl
 split at h
 ·rename_i z hz;exact⟨z.toList,by simp[hz],by simpa using h⟩
 ·cases h
theorem zV5 {a b:List UInt8}:zP4 .geq ⟨a.toArray⟩ ⟨b.toArray⟩=some (.bool (!zTU a b)):=by simp only[zP4,zJV];rfl
def zEZ (n:Nat):List UInt8:=if n<10 then [zBs n] else zEZ (n / 10)++[zBs (n % 10)]
theorem zXb {n:Nat}(h:n<100):zQQ n=zEZ n:=by
 unfold zQQ
 rw[zEZ]
 split
 ·rfl
 ·rw[zEZ,if_pos (by omega)];rfl
theorem zQS {n:Nat}(hn:n<100){H:zAd}:zAg prg zDi [.int .i64 n] H fun u H'=>u=str (zEZ n)/\Keep (fun _=>False) H H':=by
 apply zFC
 unfold zHx
 refine zAk (R:=fun u H'=>u=str (zEZ n)/\Keep (fun _=>False) H H') ?_ fun u h hR=>hR
 apply zCK
 unfold zCV
 refine zAk (R:=fun u H'=>u=str (zEZ n)/\Keep (fun _=>False) H H') ?_ fun u h hR=>hR
 apply zBW
 unfold zBS
 have e1:((10:Int) == 10)=true:=rfl
 have e2:(0:Int)<=n:=by omega
 have e3:(n:Int)<100:=by omega
 simp only[zAi,zA9,zAa,zAc,e1,if_true,zAF,zAl,e2,e3,decide_true,zAe]
 refine zAk (zAdI hn) ?_
 rintro _ _ ⟨rfl,rfl⟩
 exact⟨by rw[zXb hn],Keep.refl⟩
def zFH (v:Ver):List UInt8:=if zEX v then zNF [46] (v.p.map fun n=>zEZ n.toNat)++(if v.pre=[] then [] else 45 :: v.pre) else []
theorem zAg5 {s:ByteArray}:zFt prg zAz 1 [(0,.string s)]=some #[.string s]:=by kernel_rfl
theorem zLT {n:Nat}(h:n<1000000):(zEZ n).length<=6:=by
 rw[zEZ];split; · simp
 rw[zEZ];split; · simp
 rw[zEZ];split; · simp
 rw[zEZ];split; · simp
 rw[zEZ];split; · simp
 rw[zEZ];split; · simp
 omega
theorem zG3 {n:Int}(h:zKH n=true):0<=n/\n<=999999:=by
 simp only[zKH,Bool.not_eq_true',Bool.or_eq_false_iff,decide_eq_false_iff_not]at h;omega
theorem zAdJ {H:zAd}{v:Ver}(hv:v.wf)(hI:∀ n ∈ v.p,0<=n->n<=999999->∀ h,Keep (H.size <= ·) H h->zAg prg zDi [.int .i64 n] h fun u H'=>u=str (zEZ n.toNat)/\Keep (fun _=>False) h H'):zAg prg zBP [.agg (zCt v).toArray] H fun u H'=>u=str (zFH v)/\Keep (fun _=>False) H H':=by
 apply zI5
 unfold zHw
 simp only[zAN,zAs]
 generalize hH1:H.push (.cells (zCt v).toArray zAn (0,0))=H1
 have k1:Keep (fun _=>False) H H1:=by rw[<- hH1];exact Keep.push
 have hq1:H1[H.size]? = some (.cells (zCt v).toArray zAn (0,0)):=by rw[<- hH1];exact zAR
 have hld:ldN 4 H1 (Ptr H.size 0)=some (.agg (zCt v).toArray):=ldN_mid (A:=[]) (B:=zCt v) (C:=[]) (by rw[List.nil_append,List.append_nil];exact hq1) rfl (zBD hv).symm
 simp only[hld,zAa]
 refine zAk (zNh hv) ?_
 rintro _ H2 ⟨rfl,k2⟩
 have hq2:=k2.at hq1 id
 simp only[zAq,zAa,zAc]
 by_cases hok:zEX v=true
 ·rw[if_neg (by rw[hok];decide)]
  have hparts:∀ n ∈ v.p,0<=n/\n<=999999:=fun n hn=>zG3 (List.all_eq_true.1 (by unfold zEX at hok;simp only[Bool.and_eq_true]at hok;exact hok.1) n hn)
  have hpre16:v.pre.length<=16:=by
   unfold zEX zYK at hok;simp only[Bool.and_eq_true,decide_eq_true_eq]at hok;exact hok.2.1
  have hld3:ldN 3 H2 (Ptr H.size 0)=some (.agg (zAP .i64 v.p).toArray):=ldN_mid (A:=[]) (B:=zAP .i64 v.p) (C:=[str v.pre]) (by rw[List.nil_append];exact hq2) rfl (by simp[hv.p3])
  simp only[zAx,zAa,Nat.zero_add,hld3]
  refine zLf (fun u _ h=>BufE 1 (H2.size <= ·) h u (zOh (v.p.map fun n=>zEZ n.toNat))/\Keep (fun _=>False) H2 h) (fun k hk=>?_) ?_
  ·refine zTf (fun u i h=>∃ j:Nat,j<=3/\i = .int .i64 (j:Nat)/\BufE 1 (H2.size <= ·) h u (zOh ((v.p.take j).map fun n=>zEZ n.toNat))/\Keep (H2.size <= ·) H2 h) (fun _ i _=>match i with | .int _ t=>3 - t.toNat | _=>0)
    ⟨0,by omega,rfl,BufE.nil,Keep.refl⟩ ?_
   rintro u _ h ⟨j,hj,rfl,hu,kh⟩ k' hk'
   simp only[zAi,zA9,zAa,zAc,decide_eq_true_eq]
   by_cases hlt:(j:Int)<3
   ·rw[if_pos hlt]
    have hlt':j<v.p.length:=by rw[hv.p3];omega
    have hg:v.p[j]? = some v.p[j]:=List.getElem?_eq_getElem hlt'
    have hm:v.p[j] ∈ v.p:=List.getElem_mem _
    have hix:ixV 3 false 1 (.agg (zAP .i64 v.p).toArray) (.int .i64 (j:Nat))=some (.int .i64 v.p[j]):=by
     simp only[ixV];rw[if_pos ⟨by omega,by omega⟩]
     simpa using zFP (k := .i64) hg
    have hinc:IntKind.i64.wrap ((j:Int)+1)=(j+1:Nat):=by rw[zAM] <;> omega
    obtain⟨n0,n1⟩:=hparts _ hm
    simp only[hix,zAa,hinc]
    refine zAk (hI _ hm n0 n1 h ((k1.mono fun _ _ h=>h.elim).trans ((k2.mono fun _ _ h=>h.elim).trans (kh.mono fun b _ hb=>Nat.le_trans (Nat.le_trans k1.1 k2.1) hb)))) ?_
    rintro _ h3 ⟨rfl,k3⟩
    simp only[zAg5,zAV]
    have kp:Keep (fun _=>False) h3 (h3.push (.cells #[str (zEZ v.p[j].toNat)] zAz (0,0))):=Keep.push
    have hx:SlE 1 (· = h3.size) (h3.push (.cells #[str (zEZ v.p[j].toNat)] zAz (0,0))) (.slice (some ⟨h3.size,0,none⟩) 1 1) (zOh [zEZ v.p[j].toNat]) :=
     ⟨⟨_,1,rfl,Nat.le_refl _,.inr ⟨h3.size,0,rfl,rfl,by rw[zJH];exact Pt.of zAR⟩⟩,zNe,zMJ fun v hv=>by simp at hv;subst hv;rfl⟩
    refine((hu.keep k3 fun _ _=>id).keep kp fun _ _=>id).app hx (by omega) (by simp;omega) (by have:=kh.1;have:=k3.1;simp;omega) fun x h4 hx4 k4=>?_
    refine hk' _ _ _ ⟨j+1,by omega,rfl,?_,kh.trans ((k3.mono fun _ _ h=>h.elim).trans ((kp.mono fun _ _ h=>h.elim).trans k4))⟩ (by show 3 - (j+1)<3 - j;omega)
    have:zOh ((v.p.take (j+1)).map fun n=>zEZ n.toNat)=zOh ((v.p.take j).map fun n=>zEZ n.toNat)++zOh [zEZ v.p[j].toNat]:=by
     rw[show v.p.take (j+1)=v.p.take j++[v.p[j]] by rw[List.take_add_one,hg];rfl,List.map_append];simp[zOh,zFB]
    rw[this];exact hx4
   ·rw[if_neg hlt]
    obtain rfl:j=3:=by omega
    rw[List.take_of_length_le (by rw[hv.p3];omega)]at hu
    exact hk _ _ _ ⟨hu,kh.1,fun i hi _=>kh.2 i hi (by omega)⟩
  ·rintro u _ h3 ⟨hu,k3⟩
   have hsl:=hu.sl
   have htot:total (v.p.map fun n=>zEZ n.toNat)<=18:=by
    obtain⟨p,pre⟩:=v
    have hp3:=hv.p3
    simp only at hp3 hparts ⊢
    match p,hp3 with
    | [a,b,c],_ =>
     have l1:=zLT (n:=a.toNat) (by have:=hparts a (by simp);omega)
     have l2:=zLT (n:=b.toNat) (by have:=hparts b (by simp);omega)
     have l3:=zLT (n:=c.toNat) (by have:=hparts c (by simp);omega)
     simp[total];omega
   refine zAk (zAcp (P:=fun b=>H2.size<=b/\b<h3.size) (sep:=[46]) (l:=v.p.map fun n=>zEZ n.toNat) ?_ (fun b hb=>hb.2) (by simp[hv.p3]) (by simp) (by omega)) ?_
   ·refine⟨?_,hsl.el,hsl.one⟩
    obtain⟨a,c,hve,hc,hx⟩:=hsl.ex
    exact⟨a,c,hve,hc,hx.imp id fun⟨b,o,e,hb,hpt⟩=>⟨b,o,e,⟨hb,hpt.lt⟩,hpt⟩⟩
   rintro _ h4 ⟨rfl,k4⟩
   have hq4:=k4.at (k3.at hq2 id) id
   have d3:ld1 h4 (Ptr H.size 3)=some (str v.pre):=zO0 hq4 (by
    unfold zCt
    rw[List.getElem?_append_right (by simp[hv.p3])]
    simp[hv.p3])
   have kk:=k1.trans (k2.trans (k3.trans k4))
   have ene:zP4 .neq ⟨v.pre.toArray⟩ ⟨#[]⟩=some (.bool (!decide (v.pre=[]))):=zUX (b:=[])
   have hjl:(zNF [46] (v.p.map fun n=>zEZ n.toNat)).length<=100:=by
    have h3l:(v.p.map fun n=>zEZ n.toNat).length=3:=by simp[hv.p3]
    generalize (v.p.map fun n=>zEZ n.toNat)=L at *
    match L,h3l with
    | [a,b,c],_=>simp[zNF,total]at *;omega
   simp only[d3,zAa,zEI,ene,zAF,zAc]
   by_cases hpe:v.pre=[]
   ·rw[if_neg (by simp[hpe])]
    refine⟨?_,kk⟩
    unfold zFH
    rw[hok,hpe];simp
   ·rw[if_pos (by simp[hpe])]
    have ea:zP4 .add ⟨#[45]⟩ ⟨v.pre.toArray⟩=some (str ([45]++v.pre)):=zSx (a:=[45]) (by simp;omega)
    rw[ea,zAa]
    have ea2:zAh .no .add (str (zNF [46] (v.p.map fun n=>zEZ n.toNat))) (str ([45]++v.pre))=some (str (zNF [46] (v.p.map fun n=>zEZ n.toNat)++([45]++v.pre))):=by
     rw[zEI];exact zSx (by simp;omega)
    rw[ea2,zAa]
    refine⟨?_,kk⟩
    unfold zFH
    rw[hok];simp[hpe]
 ·rw[if_pos (by rw[eq_false_of_ne_true hok];rfl)]
  refine⟨?_,k1.trans k2⟩
  unfold zFH
  rw[if_neg hok]
theorem zLU {n:Int}(h1:0<=n)(h2:n<4294967296):IntKind.u32.wrap n=n:=by
 simp only[IntKind.wrap,IntKind.bits,IntKind.signed];simp;omega
theorem zSE {n:Int}(h1:0<=n)(h2:n<18446744073709551616):IntKind.u64.wrap n=n:=by
 simp only[IntKind.wrap,IntKind.bits,IntKind.signed];simp;omega
theorem zAa5 {x:Nat}:zAh .no .rem (.int .u32 (x:Nat)) (.int .u32 100)=some (.int .u32 ((x % 100:Nat):Int)):=by
 rw[zAi];simp only[zA9];rw[if_neg (by decide),Int.tmod_eq_emod_of_nonneg (by omega)];rfl
theorem zAfu {x:Nat}:zAh .no .rem (.int .u32 (x:Nat)) (.int .u32 10000)=some (.int .u32 ((x % 10000:Nat):Int)):=by
 rw[zAi];simp only[zA9];rw[if_neg (by decide),Int.tmod_eq_emod_of_nonneg (by omega)];rfl
theorem zAa6 {x:Nat}(h:x<4294967296):zAh .no .quo (.int .u32 (x:Nat)) (.int .u32 100)=some (.int .u32 ((x / 100:Nat):Int)):=by
 rw[zAi];simp only[zA9];rw[if_neg (by decide),Int.tdiv_eq_ediv_of_nonneg (by omega),zLU (by omega) (by omega)];rfl
theorem zAfv {x:Nat}(h:x<4294967296):zAh .no .quo (.int .u32 (x:Nat)) (.int .u32 10000)=some (.int .u32 ((x / 10000:Nat):Int)):=by
 rw[zAi];simp only[zA9];rw[if_neg (by decide),Int.tdiv_eq_ediv_of_nonneg (by omega),zLU (by omega) (by omega)];rfl
theorem m2 {x:Nat}(h:x<1000000):zAh .no .mul (.int .u32 (x:Nat)) (.int .u32 2)=some (.int .u32 ((x * 2:Nat):Int)):=by
 rw[zAi];simp only[zA9];rw[zLU (by omega) (by omega)];rfl
theorem p1 {x:Nat}(h:x<1000000):zAh .no .add (.int .u32 (x:Nat)) (.int .u32 1)=some (.int .u32 ((x+1:Nat):Int)):=by
 rw[zAi];simp only[zA9];rw[zLU (by omega) (by omega)];rfl
def zFj:Nat->Nat->List UInt8
 | 0,_=>[]
 | n+1,u=>zFj n (u / 10)++[zBs (u % 10)]
theorem zSF:∀ (n u:Nat),10 ^ n<=u->u<10 ^ (n+1)->zEZ u=zFj (n+1) u
 | 0,u,h1,h2=>by rw[zEZ,if_pos (by omega)];simp[zFj,Nat.mod_eq_of_lt (show u<10 by omega)]
 | n+1,u,h1,h2=>by
  have e:10 ^ (n+1)=10 ^ n * 10:=Nat.pow_succ ..
  have e2:10 ^ (n+1+1)=10 ^ (n+1) * 10:=Nat.pow_succ ..
  have hp:0<10 ^ n:=Nat.pos_of_ne_zero (by simp)
  rw[zEZ,if_neg (by omega),zSF n (u / 10) (by omega) (by omega)]
  rfl
def SMl:List UInt8:=(List.range 100).flatMap fun i=>[zBs (i / 10),zBs (i % 10)]
def SM:ByteArray:=⟨#[48,48,48,49,48,50,48,51,48,52,48,53,48,54,48,55,48,56,48,57,49,48,49,49,49,50,49,51,49,52,49,53,49,54,49,55,49,56,49,57,50,48,50,49,50,50,50,51,50,52,50,53,50,54,50,55,50,56,50,57,51,48,51,49,51,50,51,51,51,52,51,53,51,54,51,55,51,56,51,57,52,48,52,49,52,50,52,51,52,52,52,53,52,54,52,55,52,56,52,57,53,48,53,49,53,50,53,51,53,52,53,53,53,54,53,55,53,56,53,57,54,48,54,49,54,50,54,51,54,52,54,53,54,54,54,55,54,56,54,57,55,48,55,49,55,50,55,51,55,52,55,53,55,54,55,55,55,56,55,57,56,48,56,49,56,50,56,51,56,52,56,53,56,54,56,55,56,56,56,57,57,48,57,49,57,50,57,51,57,52,57,53,57,54,57,55,57,56,57,57]⟩
theorem zAfw:SM=⟨SMl.toArray⟩:=rfl
theorem zAcq:∀ m,m<100->SMl[m * 2]? = some (zBs (m / 10))/\SMl[m * 2+1]? = some (zBs (m % 10)):=by decide
theorem sm0 {m:Nat}(h:m<100):ixT (.string SM) (.int .u32 ((m * 2:Nat):Int))=some (.int .u8 (zBs (m / 10)).toNat):=by rw[zAfw];exact zI4 (zAcq m h).1
theorem sm1 {m:Nat}(h:m<100):ixT (.string SM) (.int .u32 ((m * 2+1:Nat):Int))=some (.int .u8 (zBs (m % 10)).toNat):=by rw[zAfw];exact zI4 (zAcq m h).2
theorem zYL {n:Nat}(h:n<10):(zBs n).toNat=48+n:=by
 unfold zBs;rw[UInt8.toNat_ofNat'];omega
theorem zHJ {b o n c:Nat}{k:IntKind}{i:Nat}(h:i<n):ixS 1 (.slice (some ⟨b,o,none⟩) n c) (.int k i)=some (Ptr b (o+i)):=by
 simp only[ixS];rw[if_pos ⟨by omega,by omega⟩];simp
theorem zG4 {H:zAd}{b i:Nat}{cs:List Value}{T:TypeId}(h:H[b]? = some (.cells cs.toArray T (0,0)))(d:UInt8)(hi:i<cs.length):st1 H (Ptr b i) (.int .u8 d.toNat)=some (H.setIfInBounds b (.cells (cs.set i (.int .u8 d.toNat)).toArray T (0,0))):=zUE h hi rfl
theorem zPn {x:Nat}(h:x<10):IntKind.u8.wrap (IntKind.u32.wrap (48+(x:Int)))=(zBs x).toNat:=by
 rw[zLU (by omega) (by omega),zYx (by omega) (by omega),zYL h];omega
theorem zXc {H:zAd}{q nd u:Nat}{cs:List Value}{T:TypeId}(hq:H[q]? = some (.cells cs.toArray T (0,0)))(hl:cs.length=24)(h3:3<=nd)(h6:nd<=6)(hu:u<10 ^ nd) :
  zAg prg zBC [.slice (some ⟨q,1,none⟩) nd 23,.int .u64 (u:Nat)] H fun _ H'=>∃ cs':List Value,H'[q]? = some (.cells cs'.toArray T (0,0))/\cs'.length=24/\(cs'.drop 1).take nd=zAy (zFj nd u)/\Keep (· = q) H H':=by
 apply zCW
 unfold zCs
 have hum:u<1000000:=Nat.lt_of_lt_of_le hu (Nat.pow_le_pow_right (by omega) h6)
 refine zAa.2 ?_
 refine zLf (fun x n h=>x = .int .u64 (u:Nat)/\n = .int .i64 (nd:Nat)/\H=h) (fun k hk=>?_) ?_
 ·refine zTf (fun x n h=>x = .int .u64 (u:Nat)/\n = .int .i64 (nd:Nat)/\H=h) (fun _ _ _=>0) ⟨rfl,rfl,rfl⟩ ?_
  rintro _ _ _ ⟨rfl,rfl,rfl⟩ k' _
  simp only[zAi (op := .geq),zA9,zAa,zAc,decide_eq_true_eq]
  rw[if_neg (by omega)]
  exact hk _ _ _ ⟨rfl,rfl,rfl⟩
 rintro _ _ _ ⟨rfl,rfl,rfl⟩
 have hcv:IntKind.u32.wrap (u:Int)=(u:Nat):=zLU (by omega) (by omega)
 simp only[zDr,hcv,zAa]
 change J2 (fun k13=>_) _
 match cs,hl with
 | [c0,c1,c2,c3,c4,c5,c6,c7,c8,c9,c10,c11,c12,c13,c14,c15,c16,c17,c18,c19,c20,c21,c22,c23],_ =>
 have hs:nd=3\/nd=4\/nd=5\/nd=6:=by omega
 have w:∀ a b:Nat,b<=a->a<=100->IntKind.i64.wrap ((a:Int) - (b:Int))=((a - b:Nat):Int):=fun a b h1 h2=>by rw[zAM] <;> omega
 rcases hs with rfl | rfl | rfl | rfl
 ·refine zLf (fun n x h=>n = .int .i64 (3:Nat)/\x = .int .u32 (u:Nat)/\H=h) (fun k hk=>?_) ?_
  ·simp only[zAi (op := .geq),zA9,zAa,zAc,decide_eq_true_eq]
   rw[if_neg (by omega)]
   exact hk _ _ _ ⟨rfl,rfl,rfl⟩
  rintro _ _ _ ⟨rfl,rfl,rfl⟩
  refine zLf (fun n x h=>n = .int .i64 (1:Nat)/\x = .int .u32 ((u / 100:Nat):Int)/\h[q]? = some (.cells [c0,c1,.int .u8 (zBs (u % 100 / 10)).toNat,.int .u8 (zBs (u % 100 % 10)).toNat,c4,c5,c6,c7,c8,c9,c10,c11,c12,c13,c14,c15,c16,c17,c18,c19,c20,c21,c22,c23].toArray T (0,0))/\Keep (· = q) H h) (fun k hk=>?_) ?_
  ·simp only[zAi (op := .geq),zA9,zAa,zAc,decide_eq_true_eq]
   rw[if_pos (by omega)]
   simp only[zAa5,zAa,m2 (show u % 100<1000000 by omega),zAa6 (show u<4294967296 by omega),p1 (show u % 100 * 2<1000000 by omega)]
   have e1:zAh .no .sub (.int .i64 (3:Nat)) (.int .i64 1)=some (.int .i64 (2:Nat)):=rfl
   have e2:zAh .no .sub (.int .i64 (3:Nat)) (.int .i64 2)=some (.int .i64 (1:Nat)):=rfl
   rw[e1,zAa,e2,zAa]
   have s1:=sm1 (m:=u % 100) (by omega)
   have s0:=sm0 (m:=u % 100) (by omega)
   unfold SM at s1 s0
   rw[s1,zAa,s0,zAa,zHJ (by omega),zAa,zG4 hq _ (by simp),zAm,zHJ (by omega),zAa,zG4 (zAt hq) _ (by simp),zAm,zAa]
   refine hk _ _ _ ⟨rfl,rfl,?_,(Keep.set (S:=(· = q)) rfl).trans (Keep.set rfl)⟩
   rw[zAt (zAt hq)];rfl
  rintro _ _ h ⟨rfl,rfl,hq2,k2⟩
  simp only[zAi (op := .gtr),zA9,zAa,zAc,decide_eq_true_eq]
  rw[if_pos (by omega)]
  have hlt:u / 100<10:=by omega
  simp only[zAi (op := .add),zA9,zAa,zDr,zPn hlt]
  have ei:ixS 1 (.slice (some ⟨q,1,none⟩) 3 23) (.int .i64 0)=some (Ptr q 1):=rfl
  rw[ei,zAa,zG4 hq2 _ (by simp),zAm]
  refine⟨_,zAt hq2,rfl,?_,k2.trans (Keep.set rfl)⟩
  have p:zFj 3 u=[zBs (u / 10 / 10 % 10),zBs (u / 10 % 10),zBs (u % 10)]:=rfl
  rw[p,show u / 10 / 10 % 10=u / 100 by omega,show u / 10 % 10=u % 100 / 10 by omega,show u % 10=u % 100 % 10 by omega]
  rfl
 ·refine zLf (fun n x h=>n = .int .i64 (0:Nat)/\x = .int .u32 ((u / 10000:Nat):Int)/\h[q]? = some (.cells [c0,.int .u8 (zBs (u % 10000 / 100 / 10)).toNat,.int .u8 (zBs (u % 10000 / 100 % 10)).toNat,.int .u8 (zBs (u % 10000 % 100 / 10)).toNat,.int .u8 (zBs (u % 10000 % 100 % 10)).toNat,c5,c6,c7,c8,c9,c10,c11,c12,c13,c14,c15,c16,c17,c18,c19,c20,c21,c22,c23].toArray T (0,0))/\Keep (· = q) H h) (fun k hk=>?_) ?_
  ·simp only[zAi (op := .geq),zA9,zAa,zAc,decide_eq_true_eq]
   rw[if_pos (by omega)]
   simp only[zAfu,zAfv (show u<4294967296 by omega),zAa6 (show u % 10000<4294967296 by omega),zAa5,m2 (show u % 10000 / 100<1000000 by omega),m2 (show u % 10000 % 100<1000000 by omega),zAa,p1 (show u % 10000 % 100 * 2<1000000 by omega),p1 (show u % 10000 / 100 * 2<1000000 by omega)]
   have e1:zAh .no .sub (.int .i64 (4:Nat)) (.int .i64 1)=some (.int .i64 (3:Nat)):=rfl
   have e2:zAh .no .sub (.int .i64 (4:Nat)) (.int .i64 2)=some (.int .i64 (2:Nat)):=rfl
   rw[e1,zAa,e2,zAa]
   have s1:=sm1 (m:=u % 10000 % 100) (by omega)
   have s0:=sm0 (m:=u % 10000 % 100) (by omega)
   have s3:=sm1 (m:=u % 10000 / 100) (by omega)
   have s2:=sm0 (m:=u % 10000 / 100) (by omega)
   unfold SM at s1 s0 s3 s2
   rw[s1,zAa,s0,zAa,zHJ (by omega),zAa,zG4 hq _ (by simp),zAm,zHJ (by omega),zAa,zG4 (zAt hq) _ (by simp),zAm]
   have e3:zAh .no .sub (.int .i64 (4:Nat)) (.int .i64 3)=some (.int .i64 (1:Nat)):=rfl
   have e4:zAh .no .sub (.int .i64 (4:Nat)) (.int .i64 4)=some (.int .i64 (0:Nat)):=rfl
   rw[e3,zAa,e4,zAa]
   rw[s3,zAa,s2,zAa,zHJ (by omega),zAa,zG4 (zAt (zAt hq)) _ (by simp),zAm,zHJ (by omega),zAa,zG4 (zAt (zAt (zAt hq))) _ (by simp),zAm,zAa]
   refine hk _ _ _ ⟨rfl,rfl,?_,(((Keep.set (S:=(· = q)) rfl).trans (Keep.set rfl)).trans (Keep.set rfl)).trans (Keep.set rfl)⟩
   rw[zAt (zAt (zAt (zAt hq)))];rfl
  rintro _ _ h ⟨rfl,rfl,hq2,k2⟩
  refine zLf (fun n _ h'=>n = .int .i64 (0:Nat)/\h=h') (fun k hk=>?_) ?_
  ·simp only[zAi (op := .geq),zA9,zAa,zAc,decide_eq_true_eq]
   rw[if_neg (by omega)]
   exact hk _ _ _ ⟨rfl,rfl⟩
  rintro _ _ _ ⟨rfl,rfl⟩
  simp only[zAi (op := .gtr),zA9,zAa,zAc,decide_eq_true_eq]
  rw[if_neg (by omega)]
  refine⟨_,hq2,rfl,?_,k2⟩
  have p:zFj 4 u=[zBs (u / 10 / 10 / 10 % 10),zBs (u / 10 / 10 % 10),zBs (u / 10 % 10),zBs (u % 10)]:=rfl
  rw[p,show u / 10 / 10 / 10 % 10=u % 10000 / 100 / 10 by omega,show u / 10 / 10 % 10=u % 10000 / 100 % 10 by omega,show u / 10 % 10=u % 10000 % 100 / 10 by omega,show u % 10=u % 10000 % 100 % 10 by omega]
  rfl
 ·refine zLf (fun n x h=>n = .int .i64 (1:Nat)/\x = .int .u32 ((u / 10000:Nat):Int)/\h[q]? = some (.cells [c0,c1,.int .u8 (zBs (u % 10000 / 100 / 10)).toNat,.int .u8 (zBs (u % 10000 / 100 % 10)).toNat,.int .u8 (zBs (u % 10000 % 100 / 10)).toNat,.int .u8 (zBs (u % 10000 % 100 % 10)).toNat,c6,c7,c8,c9,c10,c11,c12,c13,c14,c15,c16,c17,c18,c19,c20,c21,c22,c23].toArray T (0,0))/\Keep (· = q) H h) (fun k hk=>?_) ?_
  ·simp only[zAi (op := .geq),zA9,zAa,zAc,decide_eq_true_eq]
   rw[if_pos (by omega)]
   simp only[zAfu,zAfv (show u<4294967296 by omega),zAa6 (show u % 10000<4294967296 by omega),zAa5,m2 (show u % 10000 / 100<1000000 by omega),m2 (show u % 10000 % 100<1000000 by omega),zAa,p1 (show u % 10000 % 100 * 2<1000000 by omega),p1 (show u % 10000 / 100 * 2<1000000 by omega)]
   have e1:zAh .no .sub (.int .i64 (5:Nat)) (.int .i64 1)=some (.int .i64 (4:Nat)):=rfl
   have e2:zAh .no .sub (.int .i64 (5:Nat)) (.int .i64 2)=some (.int .i64 (3:Nat)):=rfl
   rw[e1,zAa,e2,zAa]
   have s1:=sm1 (m:=u % 10000 % 100) (by omega)
   have s0:=sm0 (m:=u % 10000 % 100) (by omega)
   have s3:=sm1 (m:=u % 10000 / 100) (by omega)
   have s2:=sm0 (m:=u % 10000 / 100) (by omega)
   unfold SM at s1 s0 s3 s2
   rw[s1,zAa,s0,zAa,zHJ (by omega),zAa,zG4 hq _ (by simp),zAm,zHJ (by omega),zAa,zG4 (zAt hq) _ (by simp),zAm]
   have e3:zAh .no .sub (.int .i64 (5:Nat)) (.int .i64 3)=some (.int .i64 (2:Nat)):=rfl
   have e4:zAh .no .sub (.int .i64 (5:Nat)) (.int .i64 4)=some (.int .i64 (1:Nat)):=rfl
   rw[e3,zAa,e4,zAa]
   rw[s3,zAa,s2,zAa,zHJ (by omega),zAa,zG4 (zAt (zAt hq)) _ (by simp),zAm,zHJ (by omega),zAa,zG4 (zAt (zAt (zAt hq))) _ (by simp),zAm,zAa]
   refine hk _ _ _ ⟨rfl,rfl,?_,(((Keep.set (S:=(· = q)) rfl).trans (Keep.set rfl)).trans (Keep.set rfl)).trans (Keep.set rfl)⟩
   rw[zAt (zAt (zAt (zAt hq)))];rfl
  rintro _ _ h ⟨rfl,rfl,hq2,k2⟩
  refine zLf (fun n x h'=>n = .int .i64 (1:Nat)/\x = .int .u32 ((u / 10000:Nat):Int)/\h=h') (fun k hk=>?_) ?_
  ·simp only[zAi (op := .geq),zA9,zAa,zAc,decide_eq_true_eq]
   rw[if_neg (by omega)]
   exact hk _ _ _ ⟨rfl,rfl,rfl⟩
  rintro _ _ _ ⟨rfl,rfl,rfl⟩
  simp only[zAi (op := .gtr),zA9,zAa,zAc,decide_eq_true_eq]
  rw[if_pos (by omega)]
  have hlt:u / 10000<10:=by omega
  simp only[zAi (op := .add),zA9,zAa,zDr,zPn hlt]
  have ei:ixS 1 (.slice (some ⟨q,1,none⟩) 5 23) (.int .i64 0)=some (Ptr q 1):=rfl
  rw[ei,zAa,zG4 hq2 _ (by simp),zAm]
  refine⟨_,zAt hq2,rfl,?_,k2.trans (Keep.set rfl)⟩
  have p:zFj 5 u=[zBs (u / 10 / 10 / 10 / 10 % 10),zBs (u / 10 / 10 / 10 % 10),zBs (u / 10 / 10 % 10),zBs (u / 10 % 10),zBs (u % 10)]:=rfl
  rw[p,show u / 10 / 10 / 10 / 10 % 10=u / 10000 by omega,show u / 10 / 10 / 10 % 10=u % 10000 / 100 / 10 by omega,show u / 10 / 10 % 10=u % 10000 / 100 % 10 by omega,show u / 10 % 10=u % 10000 % 100 / 10 by omega,show u % 10=u % 10000 % 100 % 10 by omega]
  rfl
 ·refine zLf (fun n x h=>n = .int .i64 (2:Nat)/\x = .int .u32 ((u / 10000:Nat):Int)/\h[q]? = some (.cells [c0,c1,c2,.int .u8 (zBs (u % 10000 / 100 / 10)).toNat,.int .u8 (zBs (u % 10000 / 100 % 10)).toNat,.int .u8 (zBs (u % 10000 % 100 / 10)).toNat,.int .u8 (zBs (u % 10000 % 100 % 10)).toNat,c7,c8,c9,c10,c11,c12,c13,c14,c15,c16,c17,c18,c19,c20,c21,c22,c23].toArray T (0,0))/\Keep (· = q) H h) (fun k hk=>?_) ?_
  ·simp only[zAi (op := .geq),zA9,zAa,zAc,decide_eq_true_eq]
   rw[if_pos (by omega)]
   simp only[zAfu,zAfv (show u<4294967296 by omega),zAa6 (show u % 10000<4294967296 by omega),zAa5,m2 (show u % 10000 / 100<1000000 by omega),m2 (show u % 10000 % 100<1000000 by omega),zAa,p1 (show u % 10000 % 100 * 2<1000000 by omega),p1 (show u % 10000 / 100 * 2<1000000 by omega)]
   have e1:zAh .no .sub (.int .i64 (6:Nat)) (.int .i64 1)=some (.int .i64 (5:Nat)):=rfl
   have e2:zAh .no .sub (.int .i64 (6:Nat)) (.int .i64 2)=some (.int .i64 (4:Nat)):=rfl
   rw[e1,zAa,e2,zAa]
   have s1:=sm1 (m:=u % 10000 % 100) (by omega)
   have s0:=sm0 (m:=u % 10000 % 100) (by omega)
   have s3:=sm1 (m:=u % 10000 / 100) (by omega)
   have s2:=sm0 (m:=u % 10000 / 100) (by omega)
   unfold SM at s1 s0 s3 s2
   rw[s1,zAa,s0,zAa,zHJ (by omega),zAa,zG4 hq _ (by simp),zAm,zHJ (by omega),zAa,zG4 (zAt hq) _ (by simp),zAm]
   have e3:zAh .no .sub (.int .i64 (6:Nat)) (.int .i64 3)=some (.int .i64 (3:Nat)):=rfl
   have e4:zAh .no .sub (.int .i64 (6:Nat)) (.int .i64 4)=some (.int .i64 (2:Nat)):=rfl
   rw[e3,zAa,e4,zAa]
   rw[s3,zAa,s2,zAa,zHJ (by omega),zAa,zG4 (zAt (zAt hq)) _ (by simp),zAm,zHJ (by omega),zAa,zG4 (zAt (zAt (zAt hq))) _ (by simp),zAm,zAa]
   refine hk _ _ _ ⟨rfl,rfl,?_,(((Keep.set (S:=(· = q)) rfl).trans (Keep.set rfl)).trans (Keep.set rfl)).trans (Keep.set rfl)⟩
   rw[zAt (zAt (zAt (zAt hq)))];rfl
  rintro _ _ h ⟨rfl,rfl,hq2,k2⟩
  refine zLf (fun n _ h'=>n = .int .i64 (0:Nat)/\h'[q]? = some (.cells [c0,.int .u8 (zBs (u / 10000 % 100 / 10)).toNat,.int .u8 (zBs (u / 10000 % 100 % 10)).toNat,.int .u8 (zBs (u % 10000 / 100 / 10)).toNat,.int .u8 (zBs (u % 10000 / 100 % 10)).toNat,.int .u8 (zBs (u % 10000 % 100 / 10)).toNat,.int .u8 (zBs (u % 10000 % 100 % 10)).toNat,c7,c8,c9,c10,c11,c12,c13,c14,c15,c16,c17,c18,c19,c20,c21,c22,c23].toArray T (0,0))/\Keep (· = q) h h') (fun k hk=>?_) ?_
  ·simp only[zAi (op := .geq),zA9,zAa,zAc,decide_eq_true_eq]
   rw[if_pos (by omega)]
   simp only[zAa5,zAa,m2 (show u / 10000 % 100<1000000 by omega),zAa6 (show u / 10000<4294967296 by omega),p1 (show u / 10000 % 100 * 2<1000000 by omega)]
   have e1:zAh .no .sub (.int .i64 (2:Nat)) (.int .i64 1)=some (.int .i64 (1:Nat)):=rfl
   have e2:zAh .no .sub (.int .i64 (2:Nat)) (.int .i64 2)=some (.int .i64 (0:Nat)):=rfl
   rw[e1,zAa,e2,zAa]
   have s1:=sm1 (m:=u / 10000 % 100) (by omega)
   have s0:=sm0 (m:=u / 10000 % 100) (by omega)
   unfold SM at s1 s0
   rw[s1,zAa,s0,zAa,zHJ (by omega),zAa,zG4 hq2 _ (by simp),zAm,zHJ (by omega),zAa,zG4 (zAt hq2) _ (by simp),zAm,zAa]
   refine hk _ _ _ ⟨rfl,?_,(Keep.set (S:=(· = q)) rfl).trans (Keep.set rfl)⟩
   rw[zAt (zAt hq2)];rfl
  rintro _ _ h' ⟨rfl,hq3,k3⟩
  simp only[zAi (op := .gtr),zA9,zAa,zAc,decide_eq_true_eq]
  rw[if_neg (by omega)]
  refine⟨_,hq3,rfl,?_,k2.trans k3⟩
  have p:zFj 6 u=[zBs (u / 10 / 10 / 10 / 10 / 10 % 10),zBs (u / 10 / 10 / 10 / 10 % 10),zBs (u / 10 / 10 / 10 % 10),zBs (u / 10 / 10 % 10),zBs (u / 10 % 10),zBs (u % 10)]:=rfl
  rw[p,show u / 10 / 10 / 10 / 10 / 10 % 10=u / 10000 % 100 / 10 by omega,show u / 10 / 10 / 10 / 10 % 10=u / 10000 % 100 % 10 by omega,show u / 10 / 10 / 10 % 10=u % 10000 / 100 / 10 by omega,show u / 10 / 10 % 10=u % 10000 / 100 % 10 by omega,show u / 10 % 10=u % 10000 % 100 / 10 by omega,show u % 10=u % 10000 % 100 % 10 by omega]
  rfl
def zAcr:List Int:=[1,10,100,1000,10000,100000,1000000,10000000,100000000,1000000000,10000000000,100000000000,1000000000000,10000000000000,100000000000000,1000000000000000,10000000000000000,100000000000000000,1000000000000000000,10000000000000000000]
theorem zTV:∀ q,q<20->zAcr[q]? = some ((10 ^ q:Nat):Int):=by decide
structure zTW (H:zAd):Prop where
 tab:zAan H zBL .u64 zAcr
 sz:NG<=H.size
theorem zTW.keep {S:Nat->Prop}{H H':zAd}(h:zTW H)(k:Keep S H H')(hs:∀ b,S b->NG<=b):zTW H' :=
 ⟨h.tab.keep k fun h=>absurd (hs _ h) (by decide),Nat.le_trans h.sz k.1⟩
theorem zPo {k:IntKind}{u b:Nat}(h:b<=k.bits):zSz k (u:Nat) (b:Nat)=((u / 2 ^ b:Nat):Int):=by
 unfold zSz
 rw[Int.toNat_natCast,Nat.min_eq_left h,Int.fdiv_eq_ediv_of_nonneg _ (by exact Int.le_of_lt (Int.pow_pos (by decide)))]
 norm_cast
def zTh (x:Nat):Nat:=if x=0 then 0 else Nat.log2 x+1
theorem zU7 {x:Nat}(h:x<256):zTh x<=8:=by
 unfold zTh;split
 ·omega
 ·have:=(Nat.log2_lt (n:=x) (k:=8) ‹_›).2 h;omega
theorem zOK {x:Nat}(h:0<x):0<zTh x/\2 ^ (zTh x - 1)<=x/\x<2 ^ zTh x:=by
 unfold zTh;rw[if_neg (by omega)]
 exact⟨by omega,Nat.log2_self_le (by omega),Nat.lt_log2_self⟩
def L8l:List UInt8:=(List.range 256).map fun x=>UInt8.ofNat (zTh x)
def L8:ByteArray:=⟨#[0,1,2,2,3,3,3,3,4,4,4,4,4,4,4,4,5,5,5,5,5,5,5,5,5,5,5,5,5,5,5,5,6,6,6,6,6,6,6,6,6,6,6,6,6,6,6,6,6,6,6,6,6,6,6,6,6,6,6,6,6,6,6,6,7,7,7,7,7,7,7,7,7,7,7,7,7,7,7,7,7,7,7,7,7,7,7,7,7,7,7,7,7,7,7,7,7,7,7,7,7,7,7,7,7,7,7,7,7,7,7,7,7,7,7,7,7,7,7,7,7,7,7,7,7,7,7,7,8,8,8,8,8,8,8,8,8,8,8,8,8,8,8,8,8,8,8,8,8,8,8,8,8,8,8,8,8,8,8,8,8,8,8,8,8,8,8,8,8,8,8,8,8,8,8,8,8,8,8,8,8,8,8,8,8,8,8,8,8,8,8,8,8,8,8,8,8,8,8,8,8,8,8,8,8,8,8,8,8,8,8,8,8,8,8,8,8,8,8,8,8,8,8,8,8,8,8,8,8,8,8,8,8,8,8,8,8,8,8,8,8,8,8,8,8,8,8,8,8,8,8,8,8,8,8,8]⟩
theorem zAg6:L8=⟨L8l.toArray⟩:=by kernel_rfl
theorem zAfx {x:Nat}(h:x<256):ixT (.string L8) (.int .u8 (x:Nat))=some (.int .u8 (zTh x:Nat)):=by
 rw[zAg6,zI4 (l:=L8l) (x:=UInt8.ofNat (zTh x)) (by simp[L8l,h])]
 rw[UInt8.toNat_ofNat',Nat.mod_eq_of_lt (by have:=zU7 h;omega)]
theorem zNi {x off:Nat}{H:zAd}{R:Value->zAd->Prop}(hx:x<256)(ho:off<=100)(h:R (.int .i64 ((off+zTh x:Nat):Int)) H) :
  Mpu (cvI .u8 (.int .u64 (x:Nat))) fun t21=>Mpu (ixT (.string L8) t21) fun t22=>Mpu (cvI .i64 t22) fun t23=>Mpu (zAh .no .add (.int .i64 (off:Nat)) t23) fun t24=>R t24 H:=by
 have:=zU7 hx
 simp only[zDr,zYx (show(0:Int)<=x by omega) (show(x:Int)<=255 by omega),zAa,zAfx hx,zAi (op := .add),zA9]
 have e1:IntKind.i64.wrap (zTh x:Int)=zTh x:=by rw[zAM] <;> omega
 have e2:IntKind.i64.wrap ((off:Int)+(zTh x:Int))=((off+zTh x:Nat):Int):=by rw[zAM] <;> omega
 rw[e1,e2];exact h
def zAcs (H:zAd)(u:Nat)(v:Value)(H':zAd):Prop:=H=H'/\∃ m:Nat,v = .int .i64 (m:Nat)/\0<m/\2 ^ (m - 1)<=u/\u<2 ^ m
theorem zYM {H:zAd}{u:Nat}(h0:0<u)(hu:u<1000000):zAg prg zEj [.int .u64 (u:Nat)] H (zAcs H u):=by
 apply zCX
 unfold zDV
 have s16:zAh .no .shr (.int .u64 (u:Nat)) (.int .u64 16)=some (.int .u64 ((u / 65536:Nat):Int)):=by rw[zPm (by omega)];exact congrArg (fun z=>some (Value.int .u64 z)) (zPo (k := .u64) (u:=u) (b:=16) (by decide))
 have s8:zAh .no .shr (.int .u64 (u:Nat)) (.int .u64 8)=some (.int .u64 ((u / 256:Nat):Int)):=by rw[zPm (by omega)];exact congrArg (fun z=>some (Value.int .u64 z)) (zPo (k := .u64) (u:=u) (b:=8) (by decide))
 have a16:zAh .no .add (.int .i64 0) (.int .i64 16)=some (.int .i64 (16:Nat)):=rfl
 have a8:zAh .no .add (.int .i64 0) (.int .i64 8)=some (.int .i64 (8:Nat)):=rfl
 simp only[zYq,zAi (op := .geq),zA9,zAa,zAc,decide_eq_true_eq]
 rw[if_neg (by omega)]
 by_cases h1:65536<=u
 ·rw[if_pos (by omega),s16,zAa,a16,zAa]
  simp only[zAi (op := .geq),zA9,zAa,zAc,decide_eq_true_eq]
  rw[if_neg (by omega)]
  refine zNi (R:=zAcs H u) (H:=H) (off:=16) (x:=u / 65536) (by omega) (by omega) ?_
  obtain⟨l1,l2,l3⟩:=zOK (x:=u / 65536) (by omega)
  generalize zTh (u / 65536)=m at *
  refine⟨rfl,16+m,rfl,by omega,?_,?_⟩
  ·rw[show 16+m - 1=16+(m - 1) by omega,Nat.pow_add];omega
  ·rw[Nat.pow_add];omega
 ·rw[if_neg (by omega)]
  by_cases h2:256<=u
  ·rw[if_pos (by omega),s8,zAa,a8,zAa]
   refine zNi (R:=zAcs H u) (H:=H) (off:=8) (x:=u / 256) (by omega) (by omega) ?_
   obtain⟨l1,l2,l3⟩:=zOK (x:=u / 256) (by omega)
   generalize zTh (u / 256)=m at *
   refine⟨rfl,8+m,rfl,by omega,?_,?_⟩
   ·rw[show 8+m - 1=8+(m - 1) by omega,Nat.pow_add];omega
   ·rw[Nat.pow_add];omega
  ·rw[if_neg (by omega)]
   refine zNi (R:=zAcs H u) (H:=H) (off:=0) (x:=u) (by omega) (by omega) ?_
   obtain⟨l1,l2,l3⟩:=zOK h0
   exact⟨rfl,0+zTh u,rfl,by omega,by rw[Nat.zero_add];exact l2,by rw[Nat.zero_add];exact l3⟩
theorem zAfy:∀ m,m<21->7<=m->10 ^ (m * 78913 / 262144 - 1)<=2 ^ (m - 1)/\2 ^ m<=10 ^ (m * 78913 / 262144+1)/\m * 78913 / 262144<20:=by decide
theorem zU8 {H:zAd}{u:Nat}(h0:100<=u)(hu:u<1000000)(hT:zTW H):zAg prg zB5 [.int .u64 (u:Nat)] H fun v H'=>H=H'/\∃ nd:Nat,v = .int .i64 (nd:Nat)/\3<=nd/\nd<=6/\10 ^ (nd - 1)<=u/\u<10 ^ nd:=by
 apply zDs
 unfold zC1
 refine zAk (zYM (by omega) hu) ?_
 rintro _ _ ⟨rfl,m,rfl,hm0,hm1,hm2⟩
 have m7:7<=m:=by
  rcases Nat.lt_or_ge m 7 with h | h
  ·have:2 ^ m<=2 ^ 6:=Nat.pow_le_pow_right (by omega) (by omega)
   omega
  ·exact h
 have m20:m<21:=by
  rcases Nat.lt_or_ge m 21 with h | h
  ·exact h
  ·have:2 ^ 20<=2 ^ (m - 1):=Nat.pow_le_pow_right (by omega) (by omega)
   omega
 obtain⟨b1,b2,b3⟩:=zAfy m m20 m7
 generalize hq:m * 78913 / 262144=q at *
 refine zAk (R:=fun v H'=>H=H'/\v = .int .i64 (q:Nat)) ?_ ?_
 ·apply zDt
  unfold zC2
  have e:zAh .no .mul (.int .i64 (m:Nat)) (.int .i64 78913)=some (.int .i64 ((m * 78913:Nat):Int)):=by
   rw[zAi];simp only[zA9];rw[zAM] <;> first | rfl | omega
  rw[e,zAa,zPm (by omega),zAa]
  refine⟨rfl,?_⟩
  have:=zPo (k := .i64) (u:=m * 78913) (b:=18) (by decide)
  rw[show(2:Nat) ^ 18=262144 by rfl,hq]at this
  exact congrArg (Value.int .i64) this
 rintro _ _ ⟨rfl,rfl⟩
 rw[zPe b3,zAa,hT.tab.ld (zTV q b3),zAa]
 simp only[zAi (op := .geq),zA9,zAa]
 refine zAk (R:=fun v H'=>H=H'/\v = .int .i64 ((if 10 ^ q<=u then 1 else 0:Nat):Int)) ?_ ?_
 ·apply zDu
  unfold zC3
  rw[zAc]
  by_cases h:10 ^ q<=u
  ·rw[if_pos (by simpa using Int.ofNat_le.2 h),if_pos h];exact⟨rfl,rfl⟩
  ·rw[if_neg (by simpa using fun h'=>h (Int.ofNat_le.1 h')),if_neg h];exact⟨rfl,rfl⟩
 rintro _ _ ⟨rfl,rfl⟩
 have bnd:∀ nd,10 ^ (nd - 1)<=u->u<10 ^ nd->3<=nd/\nd<=6:=fun nd g1 g2=>by
  constructor
  ·rcases Nat.lt_or_ge nd 3 with h | h
   ·have:10 ^ nd<=10 ^ 2:=Nat.pow_le_pow_right (by omega) (by omega)
    omega
   ·exact h
  ·rcases Nat.lt_or_ge 6 nd with h | h
   ·have:10 ^ 6<=10 ^ (nd - 1):=Nat.pow_le_pow_right (by omega) (by omega)
    omega
   ·exact h
 have key:∃ nd:Nat,nd=q+(if 10 ^ q<=u then 1 else 0)/\3<=nd/\nd<=6/\10 ^ (nd - 1)<=u/\u<10 ^ nd:=by
  by_cases h:10 ^ q<=u
  ·rw[if_pos h]
   have g2:u<10 ^ (q+1):=Nat.lt_of_lt_of_le hm2 b2
   obtain⟨g3,g4⟩:=bnd (q+1) (by simpa using h) g2
   exact⟨q+1,rfl,g3,g4,by simpa using h,g2⟩
  ·rw[if_neg h]
   have g1:10 ^ (q - 1)<=u:=Nat.le_trans b1 hm1
   obtain⟨g3,g4⟩:=bnd q g1 (by omega)
   exact⟨q,rfl,g3,g4,g1,by omega⟩
 obtain⟨nd,hnd,k3,k6,k1,k2⟩:=key
 have e:zAh .no .add (.int .i64 (q:Nat)) (.int .i64 ((if 10 ^ q<=u then 1 else 0:Nat):Int))=some (.int .i64 (nd:Nat)):=by
  rw[zAi];simp only[zA9];rw[hnd];push_cast;rw[zAM] <;> first | rfl | (split <;> omega)
 rw[e,zAa]
 exact⟨rfl,nd,rfl,k3,k6,k1,k2⟩
theorem zAfz:zAB prg zGJ=some (zAy (List.replicate 24 0)).toArray:=by kernel_rfl
theorem zAfA {n:Nat}(hn:n<1000000){H:zAd}(hT:zTW H):zAg prg zDi [.int .i64 n] H fun u H'=>u=str (zEZ n)/\Keep (fun _=>False) H H':=by
 by_cases hs:n<100
 ·exact zQS hs
 apply zFC
 unfold zHx
 refine zAk (R:=fun u H'=>u=str (zEZ n)/\Keep (fun _=>False) H H') ?_ fun u h hR=>hR
 apply zCK
 unfold zCV
 refine zAk (R:=fun u H'=>u=str (zEZ n)/\Keep (fun _=>False) H H') ?_ fun u h hR=>hR
 apply zBW
 unfold zBS
 have e1:((10:Int) == 10)=true:=rfl
 have e2:(0:Int)<=n:=by omega
 have e3:¬ (n:Int)<100:=by omega
 have e4:¬ (n:Int)<0:=by omega
 have ec:IntKind.u64.wrap (n:Int)=(n:Nat):=zSE (by omega) (by omega)
 simp only[zAi (op := .eql),zAi (op := .leq),zAi (op := .lss),zA9,zAa,zAc,e1,if_true,zAF,zAl,e2,e3,e4,decide_true,decide_false,zAe,Bool.false_eq_true,if_false,zAfz,zAs,zDr,ec]
 generalize hH1:H.push (.cells (zAy (List.replicate 24 0)).toArray zGJ (0,0))=H1
 have k1:Keep (fun _=>False) H H1:=by rw[<- hH1];exact Keep.push
 have hq1:H1[H.size]? = some (.cells (zAy (List.replicate 24 0)).toArray zGJ (0,0)):=by rw[<- hH1];exact zAR
 refine zAk (zU8 (by omega) hn (hT.keep k1 fun _ h=>h.elim)) ?_
 rintro _ _ ⟨rfl,nd,rfl,h3,h6,p1,p2⟩
 have a1:zAh .no .add (.int .i64 1) (.int .i64 (nd:Nat))=some (.int .i64 ((1+nd:Nat):Int)):=by
  rw[zAi];simp only[zA9];rw[zAM] <;> first | rfl | omega
 have sl:slA 24 1 (.pointer (some ⟨H.size,0,none⟩)) (some (.int .i64 1)) (some (.int .i64 ((1+nd:Nat):Int))) none=some (.slice (some ⟨H.size,1,none⟩) nd 23):=by
  have hs:nd=3\/nd=4\/nd=5\/nd=6:=by omega
  rcases hs with rfl | rfl | rfl | rfl <;> rfl
 rw[a1,zAa,sl,zAa]
 refine zAk (zXc hq1 (by simp) h3 h6 p2) ?_
 rintro _ h8 ⟨cs,hq8,hl8,hd,k8⟩
 have hb:b2s h8 (.slice (some ⟨H.size,1,none⟩) nd 23)=some (str (zFj nd n)):=by
  have hpl:(zFj nd n).length=nd:=by
   have hs:nd=3\/nd=4\/nd=5\/nd=6:=by omega
   rcases hs with rfl | rfl | rfl | rfl <;> rfl
  exact(Bs.mk (l:=zFj nd n) hq8 hpl.symm (by simp[hl8];omega) (by simpa using hd)).b2s fun s h=>by cases h
 simp only[a1,sl,hb,zAa]
 obtain⟨m,rfl⟩:∃ m,nd=m+1:=⟨nd - 1,by omega⟩
 refine⟨by rw[zSF m n (by simpa using p1) p2],?_⟩
 exact⟨Nat.le_trans k1.1 k8.1,fun i hi _=>by rw[k8.2 i (Nat.lt_of_lt_of_le hi k1.1) (by omega),k1.2 i hi id]⟩
theorem zU9 {H:zAd}{v:Ver}(hv:v.wf)(hT:zTW H):zAg prg zBP [.agg (zCt v).toArray] H fun u H'=>u=str (zFH v)/\Keep (fun _=>False) H H' :=
 zAdJ hv fun n _ h0 h1 h k=>by
  obtain⟨m,rfl⟩:∃ m:Nat,n=m:=⟨n.toNat,by omega⟩
  exact zAfA (by omega) (hT.keep k fun _ hb=>Nat.le_trans hT.sz hb)
end Go.Proofs.YticdfkoncnnmmaaGreatDoor
