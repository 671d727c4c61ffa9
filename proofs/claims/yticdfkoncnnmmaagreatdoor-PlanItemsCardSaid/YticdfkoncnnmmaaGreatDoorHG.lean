import Derived.Test.YticdfkoncnnmmaaGreatDoorGI
import Derived.Test.YticdfkoncnnmmaaGreatDoorHA
import Derived.Test.YticdfkoncnnmmaaGreatDoorG6
import Derived.Test.YticdfkoncnnmmaaGreatDoorG1
import Derived.Test.YticdfkoncnnmmaaGreatDoorHB
import Derived.Test.YticdfkoncnnmmaaGreatDoorGO
set_option linter.unusedSimpArgs false
set_option linter.unusedVariables false
set_option maxRecDepth 100000
namespace Go.Proofs.YticdfkoncnnmmaaGreatDoor
open Go.X Go.X.Diff
def hxL:List UInt8:=[48,49,50,51,52,53,54,55,56,57,97,98,99,100,101,102]
def hxD (n:Nat):UInt8:=hxL.getD n 0
def hx2 (c:UInt8):List UInt8:=[hxD (c.toNat / 16),hxD (c.toNat % 16)]
theorem zAc2 {n:Nat}(h:n<16):hxL[n]? = some (hxD n):=by
 unfold hxD
 have:n<hxL.length:=h
 simp[List.getD,this]
theorem u8s:∀ c:UInt8,zAh .no .shr (.int .u8 (c.toNat:Nat)) (.int .u64 4)=some (.int .u8 ((c.toNat / 16:Nat):Int)):=fun c=>by
 rw[zPm (by omega)]
 exact congrArg (fun z=>some (Value.int .u8 z)) (zPo (k := .u8) (u:=c.toNat) (b:=4) (by decide))
theorem zAeN:∀ n:Fin 256,(IntKind.u8.wrap ((BitVec.ofInt IntKind.u8.bits ((n.1:Nat):Int) &&& BitVec.ofInt IntKind.u8.bits 15).toNat:Int))=((n.1 % 16:Nat):Int):=by decide +kernel
theorem u8a:∀ c:UInt8,zAh .no .and (.int .u8 (c.toNat:Nat)) (.int .u8 15)=some (.int .u8 ((c.toNat % 16:Nat):Int)):=fun c=>by
 rw[zAi];simp only[zA9]
 congr 2
 exact zAeN ⟨c.toNat,c.toNat_lt⟩
theorem zAhK {a b:Int}:zFt prg zAS 2 [(0,.int .u8 a),(1,.int .u8 b)]=some #[.int .u8 a,.int .u8 b]:=by kernel_rfl
theorem zAae {d:List UInt8}:((d.map hx2).flatten).length=2 * d.length:=by
 induction d with
 | nil=>rfl
 | cons a d ih=>rw[List.map_cons,List.flatten_cons,List.length_append,ih];simp[hx2];omega
theorem zXE {H:zAd}{l:List UInt8}(hl:l.length=32):zAg prg zHn [bv l] H fun u H'=>u=str ((l.map hx2).flatten)/\Keep (fun _=>False) H H':=by
 apply zMq
 unfold zMc
 have ec:Value.cells (bv l)=(zAy l).toArray:=rfl
 rw[ec,zAs]
 generalize hH1:H.push (.cells (zAy l).toArray zAO (0,0))=h1
 have k1:Keep (fun _=>False) H h1:=by rw[<- hH1];exact Keep.push
 have a1:At h1 H.size (zAy l):=by rw[<- hH1];exact At.push
 have g1:=k1.1
 have sh:(Value.string ⟨#[48,49,50,51,52,53,54,55,56,57,97,98,99,100,101,102]⟩)=str hxL:=rfl
 rw[sh]
 refine zLf (fun u _ h=>Buf (h1.size <= ·) h u ((l.map hx2).flatten)/\Keep (fun _=>False) H h) (fun k hk=>?_) ?_
 ·rw[a1.ldN (n:=32) (by simp[hl]),zAa]
  refine zTf (fun u t h=>∃ i:Nat,i<=32/\t = .int .i64 (i:Nat)/\Buf (h1.size <= ·) h u (((l.take i).map hx2).flatten)/\Keep (fun _=>False) h1 h) (fun _ u _=>match u with | .int _ t=>32 - t.toNat | _=>0) ⟨0,Nat.zero_le _,rfl,.inl ⟨rfl,rfl⟩,Keep.refl⟩ ?_
  rintro u _ h ⟨i,hi,rfl,hb,kh⟩ kk hkk
  have el:zAh .no .lss (.int .i64 (i:Nat)) (.int .i64 32)=some (.bool (decide (i<32))):=by
   rw[zAi];simp only[zA9];congr 2;rw[decide_eq_decide];omega
  rw[el,zAa,zAc]
  by_cases hlt:i<32
  rotate_left
  ·rw[if_neg (by simpa using hlt)]
   rw[List.take_of_length_le (by omega)]at hb
   exact hk _ _ _ ⟨hb,k1.trans kh⟩
  rw[if_pos (by simpa using hlt)]
  have hg:l[i]? = some (l[i]'(by omega)):=List.getElem?_eq_getElem (by omega)
  have hix:ixV 32 false 1 (.agg (zAy l).toArray) (.int .i64 (i:Nat))=some (.int .u8 ((l[i]'(by omega)).toNat:Nat)):=by
   simp only[ixV]
   rw[if_pos ⟨by omega,by omega⟩]
   simp only[Bool.false_eq_true,if_false,Nat.mul_one,Int.toNat_natCast]
   rw[List.getElem?_toArray]
   unfold zAy
   rw[List.getElem?_map,hg];rfl
  have htk:((l.take (i+1)).map hx2).flatten=((l.take i).map hx2).flatten++hx2 (l[i]'(by omega)):=by
   rw[List.take_add_one,hg,List.map_append,List.flatten_append]
   simp only[Option.toList_some,List.map_cons,List.map_nil,List.flatten_cons,List.flatten_nil,List.append_nil]
  generalize l[i]'(by omega)=c at *
  have hc:=c.toNat_lt
  have h1':=zAc2 (n:=c.toNat / 16) (by omega)
  have h2':=zAc2 (n:=c.toNat % 16) (by omega)
  rw[hix,zAa,u8s,zAa,zI4 h1',zAa,u8a,zAa,zI4 h2',zAa,zAhK,zAV]
  generalize hH5:h.push (.cells #[.int .u8 ((hxD (c.toNat / 16)).toNat:Nat),.int .u8 ((hxD (c.toNat % 16)).toNat:Nat)] zAS (0,0))=h5
  have k5:Keep (fun _=>False) h h5:=by rw[<- hH5];exact Keep.push
  have s5:h5.size=h.size+1:=by rw[<- hH5];simp
  have hbs:Bs h5 (.slice (some ⟨h.size,0,none⟩) 2 2) (hx2 c):=by
   rw[<- hH5];exact Bs.mk zAR rfl (by simp) rfl
  have gh:=kh.1
  have hl3:(l.take i).length<=32:=by rw[List.length_take];omega
  refine(hb.keep k5 fun _ _=>id).app hbs (by rw[zAae];show _+2<=_;omega) (by show h1.size<=h5.size;omega) fun v2 h6 hv2 k6=>?_
  rw[zAG (by omega),zAa]
  exact hkk _ _ _ ⟨i+1,by omega,rfl,by rw[htk];exact hv2,(kh.trans k5).fresh k6 fun b hb=>hb⟩ (by show 32 - (i+1)<32 - i;omega)
 ·rintro u _ h ⟨hb,kh⟩
  rw[hb.sl.b2s,zAa]
  exact⟨rfl,kh⟩
theorem zUy {Pd:Nat->Prop}{H:zAd}{v:Value}{m:List UInt8}(hx:Sl Pd H v m)(hT:zTg H)(hPd:∀ b,Pd b->b<H.size)(hl:m.length<=1099511627776) :
  zAg prg zNd [v] H fun u H'=>u=bv (zXL (0 :: m))/\Keep (fun _=>False) H H':=by
 apply zPh
 unfold zQK
 obtain⟨va,vc,hve,_⟩:=hx.sl
 simp only[zVZ,zAs,hve,zAd4,zAV]
 rw[<- hve]
 generalize hH2:H.push (.cells (zAy zMZ).toArray zAO (0,0))=H2
 have k2:Keep (fun _=>False) H H2:=by rw[<- hH2];exact Keep.push
 have hs2:H2.size=H.size+1:=by rw[<- hH2];simp
 have hr2:H2[H.size]? = some (.cells (zAy zMZ).toArray zAO (0,0)):=by rw[<- hH2];exact zAR
 generalize hH3:H2.push (.cells #[v] zDq (0,0))=H3
 have k3:Keep (fun _=>False) H2 H3:=by rw[<- hH3];exact Keep.push
 have hs3:H3.size=H2.size+1:=by rw[<- hH3];simp
 have hv3:H3[H2.size]? = some (.cells #[v] zDq (0,0)):=by rw[<- hH3];exact zAR
 have kk:Keep (fun _=>False) H H3:=k2.trans k3
 have sv:Sl Pd H3 v m:=hx.keep kk fun _ _=>id
 have hvv:SlE 1 (· = H2.size) H3 (.slice (some ⟨H2.size,0,none⟩) 1 1) (zFB ([(v,m)].map (·.1))):=by
  refine⟨⟨_,1,rfl,Nat.le_refl _,.inr ⟨H2.size,0,rfl,rfl,?_⟩⟩,zNe,zRU (P:=Pd) (H:=H3) ?_⟩
  ·rw[zJH];exact Pt.of hv3
  ·intro x hx;simp at hx;subst hx;exact sv
 refine zAk (zTR (Pd:=Pd) hvv ?_ (hT.keep kk fun _ h=>h.elim) (fun b hb=>by omega) (fun b hb=>?_) ?_ (by simp)) ?_
 ·intro x hx;simp at hx;subst hx;exact sv
 ·have:=hPd b hb;omega
 ·simp[zHI];omega
 rintro _ H4 ⟨rfl,k4⟩
 have hr4:=(k3.trans k4).at hr2 id
 have e6:(bO 0 :: zHI [(v,m)])=0 :: m:=by simp[zHI];rfl
 rw[zOx hr4 (n:=32) rfl zFQ,zAm,zMI (zAt hr4) zFQ,zAa]
 refine⟨by rw[e6],?_⟩
 have:=(kk.trans k4)
 refine⟨by simp;exact this.1,fun i hi _=>?_⟩
 rw[Array.getElem?_setIfInBounds,if_neg (by omega),this.2 i hi id]
def zOY:List UInt8:=[102,105,108,101]
def zRk (f:zE8):List UInt8:=zQ0 [zOY,f.name,zTi f.size,(f.sum.map hx2).flatten]
def zAe4 (m:Man):List UInt8:=zAbs m++(m.files.map zRk).flatten
theorem zAhL {a b c d:List UInt8}:zFt prg zAz 4 [(0,str a),(1,str b),(2,str c),(3,str d)]=some ([a,b,c,d].map str).toArray:=by kernel_rfl
theorem zVz:∀ {k n:Nat},1<=k->n<10 ^ k->(zEZ n).length<=k
 | 0,_,h,_=>by omega
 | 1,n,_,h=>by rw[zEZ,if_pos (by omega)];simp
 | k+2,n,_,h=>by
  rw[zEZ]
  split
  ·simp
  ·have h1:n / 10<10 ^ (k+1):=by
    rw[Nat.div_lt_iff_lt_mul (by omega)]
    rw[Nat.pow_succ]at h;exact h
   have:=zVz (k:=k+1) (n:=n / 10) (by omega) h1
   rw[List.length_append,List.length_singleton];omega
theorem zAaf {n:Int}(h1 : -9223372036854775808<=n)(h:n<=1048576):(zTi n).length<=100:=by
 unfold zTi
 split
 ·have:=zVz (k:=19) (n:=(-n).toNat) (by omega) (by omega)
  rw[List.length_cons];omega
 ·have:=zVz (k:=19) (n:=n.toNat) (by omega) (by omega);omega
theorem zRl {f:zE8}(w:f.wf)(h1:f.name.length<=64)(h2:f.size<=1048576):(zRk f).length<=300:=by
 have:=zOQ (l:=[zOY,f.name,zTi f.size,(f.sum.map hx2).flatten])
 have h3:=zAaf w.size.1 h2
 have h4:=zAae (d:=f.sum)
 have h5:=w.sum
 unfold zRk
 simp[total,zOY]at this ⊢
 have h6:(List.map (List.length ∘ hx2) f.sum).sum=2 * f.sum.length:=by
  rw[<- h4];simp[List.length_flatten]
 omega
theorem zWP {m:Man}(w:∀ f ∈ m.files,f.wf)(f3:∀ f ∈ m.files,f.name.length<=64)(f4:∀ f ∈ m.files,f.size<=1048576)(f1:m.files.length<=64)(hms:(zAbs m).length<=1099511627):(zAe4 m).length<=1099611627:=by
 have:=zM2 (f:=zRk) (n:=300) (l:=m.files) fun x hx=>zRl (w x hx) (f3 x hx) (f4 x hx)
 unfold zAe4
 rw[List.length_append];omega
theorem zAag {P:Nat->Prop}{p:Nat}{H:zAd}{v:Value}{l:List zE8}{acc:List UInt8}{k:Value->zAd->Prop}
  (hv:SlE 34 P H v (l.map zB9)) (hP:∀ b,P b->b<p) (hb:BAt (p < ·) p H acc) (hp:p<H.size) (hw:∀ d ∈ l,d.wf) (hok:∀ d ∈ l,d.name.length<=64/\d.size<=1048576) (hl:l.length<=64) (hacc:acc.length<=1099511627)
  (hT:zTW H) (hN:NG<=p)
  (hk:∀ u h,BAt (p < ·) p h (acc++(l.map zRk).flatten)->Keep (p <= ·) H h->k u h) :
  L1 (fun k30=>fun t57_2 h31 =>
    Mpu (zAh .no .lss t57_2 (.int .i64 (l.length:Nat))) fun t58 =>
    Mcd t58 (
     Mpu (ixS 34 v t57_2) fun t59 =>
     Mpu (ldN 34 h31 t59) fun t60 =>
     zBH h31 zAu (zAB prg zAu) fun t10 h32 =>
     Mwr (stN 34 h32 t10 t60) fun h33 =>
     Mpu (fld 0 t10) fun t61 =>
     Mpu (ld1 h33 t61) fun t62 =>
     Mpu (fld 33 t10) fun t63 =>
     Mpu (ld1 h33 t63) fun t64 =>
     Mpu (fld 1 t10) fun t66 =>
     Mpu (ldN 32 h33 t66) fun t67 =>
     zAp prg zDi [t64] h33 fun t65 h34 =>
     Mre [(ldN 32 h34 t66,t67),(ld1 h34 t61,t62)] (
     zAp prg zHn [t67] h34 fun t68 h35 =>
     Mre [(ld1 h35 t61,t62)] (
     zC5 h35 zAz 4 (zFt prg zAz 4 [(0,str zOY),(1,t62),(2,t65),(3,t68)]) fun t69 h36 =>
     zAp prg zCI [t69] h36 fun t70 h37 =>
     zAp prg zAK [Ptr p 0,t70] h37 fun _ h38 =>
     Mpu (zAh .no .add t57_2 (.int .i64 1)) fun t72 =>
     k30 t72 h38))) (
     k t57_2 h31)) ((.int .i64 0)) H:=by
 refine zHU (fun u h=>∃ i:Nat,i<=l.length/\u = .int .i64 (i:Nat)/\BAt (p < ·) p h (acc++((l.take i).map zRk).flatten)/\Keep (p <= ·) H h) (fun u _=>match u with | .int _ t=>l.length - t.toNat | _=>0) ⟨0,Nat.zero_le _,rfl,by simpa using hb,Keep.refl⟩ ?_
 rintro _ h ⟨i,hi,rfl,hbi,kh⟩ k2 hk2
 rw[zMs,zAa,zAc]
 by_cases hlt:i<l.length
 rotate_left
 ·rw[if_neg (by simpa using hlt)]
  rw[List.take_of_length_le (by omega)]at hbi
  exact hk _ _ hbi kh
 rw[if_pos (by simpa using hlt)]
 have hg:l[i]? = some l[i]:=List.getElem?_eq_getElem hlt
 obtain⟨b,o,hix,hpt,_⟩:=(hv.keep kh fun b hb=>by have:=hP b hb;omega).at (i:=i) (x:=zB9 l[i]) (by rw[List.getElem?_map,hg];rfl)
 have hwd:=hw _ (List.getElem_mem hlt)
 have hnd:=hok _ (List.getElem_mem hlt)
 have htk:((l.take (i+1)).map zRk).flatten=((l.take i).map zRk).flatten++zRk l[i]:=by
  rw[List.take_add_one,hg,List.map_append,List.flatten_append]
  simp only[Option.toList_some,List.map_cons,List.map_nil,List.flatten_cons,List.flatten_nil,List.append_nil]
 generalize l[i]=f at *
 rw[hix .i64,zAa,hpt.agg (zBG hwd),zAa]
 simp only[zY1,zAs,zAx,Nat.zero_add,Nat.add_zero,zAa]
 generalize hH6:h.push (.cells (zB9 zSU).toArray zAu (0,0))=h6
 have k6:Keep (fun _=>False) h h6:=by rw[<- hH6];exact Keep.push
 have a6:At h6 h.size (zB9 zSU):=by rw[<- hH6];exact At.push
 obtain⟨h7,st7,a7,k7⟩:=a6.st (n:=34) (ds:=zB9 f) (zBG zSV) (zBG hwd) zKd
 have g1:=kh.1
 have g6:=k6.1
 have k17:Keep (fun _=>False) h h7:=k6.fresh k7 fun b hb=>by omega
 have kH7:Keep (p <= ·) H h7:=kh.trans (k17.mono fun _ _ h=>h.elim)
 have d0:∀ h',Keep (fun _=>False) h7 h'->ld1 h' (Ptr h.size 0)=some (str f.name):=fun h' k=>(a7.keep k id).ld rfl
 have d1:∀ h',Keep (fun _=>False) h7 h'->ldN 32 h' (Ptr h.size 1)=some (bv f.sum):=fun h' k=>by
  have:=zY2 (a7.keep k id).pt hwd
  rwa [Nat.zero_add]at this
 have d33:=zVg a7.pt hwd
 rw[Nat.zero_add]at d33
 rw[st7,zAm,d0 _ Keep.refl,zAa,d33,zAa,d1 _ Keep.refl,zAa]
 refine zAk (zAec hwd.size.1 hwd.size.2 (hT.keep kH7 fun b hb=>by omega)) ?_
 rintro _ h8 ⟨rfl,k8⟩
 rw[d1 _ k8,d0 _ k8,zAw,zAw,zAr]
 refine zAk (zXE hwd.sum) ?_
 rintro _ h8' ⟨rfl,k8'⟩
 rw[d0 _ (k8.trans k8'),zAw,zAr,zAhL,zAV]
 generalize hH9:h8'.push (.cells ([zOY,f.name,zTi f.size,(f.sum.map hx2).flatten].map str).toArray zAz (0,0))=h9
 have k9:Keep (fun _=>False) h8' h9:=by rw[<- hH9];exact Keep.push
 have a9:At h9 h8'.size ([zOY,f.name,zTi f.size,(f.sum.map hx2).flatten].map str):=by rw[<- hH9];exact At.push
 have hdl:(zRk f).length<=300:=zRl hwd hnd.1 hnd.2
 have hil:=zAaf hwd.size.1 hnd.2
 have hxl:=zAae (d:=f.sum)
 have hsl:=hwd.sum
 refine zAk (zYZ a9 rfl (by simp) (by
  have e:total [zOY,f.name,zTi f.size,(f.sum.map hx2).flatten]=4+(f.name.length+((zTi f.size).length+((f.sum.map hx2).flatten).length)):=by
   generalize (f.sum.map hx2).flatten=z
   unfold total
   simp[zOY]
   omega
  rw[e];omega)) ?_
 rintro _ h10 ⟨rfl,k10⟩
 have kk:Keep (fun _=>False) h h10:=k17.trans ((k8.trans k8').trans (k9.trans k10))
 have hb10:=hbi.keep kk fun _ _=>id
 have hfl:=zM2 (f:=zRk) (n:=300) (l:=l.take i) fun x hx=>zRl (hw x (List.mem_of_mem_take hx)) (hok x (List.mem_of_mem_take hx)).1 (hok x (List.mem_of_mem_take hx)).2
 have hti:(l.take i).length<=64:=by rw[List.length_take];omega
 have hsz:=kk.1
 refine zAk (zFR hb10 (by
  rw[List.length_append]
  have:(zQ0 [zOY,f.name,zTi f.size,(f.sum.map hx2).flatten]).length<=300:=hdl
  omega) fun b hb=>by show p<b;omega) ?_
 rintro _ h11 ⟨rfl,hb11,k11⟩
 rw[zAG (by omega),zAa]
 refine hk2 _ _ ⟨i+1,by omega,rfl,?_,?_⟩ (by show l.length - (i+1)<l.length - i;omega)
 ·rw[htk,<- List.append_assoc];exact hb11
 ·exact(kh.trans (kk.mono fun _ _ h=>h.elim)).trans (k11.mono fun b _ hb=>by rcases hb with hb | hb <;> omega)
theorem zAah {P:Nat->Prop}{H:zAd}{m:Man}{vd vc vf:Value}(hv:zJJ P H m vd vc vf)(hP:∀ b,P b->b<H.size)(hd:m.deps.length<=1048576)(hc:m.conf.length<=1048576)(hO:zNR H)(hT:zTW H) :
  zAg prg zEd [.agg (zEN m vd vc vf).toArray] H fun u H'=>u=(if zEt m=true then .tuple #[str (zAe4 m),.int .i64 0] else .tuple #[str [],.int .i64 10])/\Keep (fun _=>False) H H':=by
 apply zIq
 unfold zGr
 simp only[zAN,zAs]
 generalize hH1:H.push (.cells (zEN m vd vc vf).toArray zAb (0,0))=H1
 have k1:Keep (fun _=>False) H H1:=by rw[<- hH1];exact Keep.push
 have a1:At H1 H.size (zEN m vd vc vf):=by rw[<- hH1];exact At.push
 have w:=hv.wf
 rw[zQZ a1 w,zAa]
 refine zAk (zQd (hv.keep k1 fun _ _=>id) (by omega) (by omega) (hO.keep k1 fun _ h=>h.elim)) ?_
 rintro _ h2 ⟨rfl,k2⟩
 have a2:=a1.keep k2 id
 have k12:=k1.trans k2
 rw[zAq,zAa,zAc]
 cases hokG:zEt m
 ·simp only[zAq,Bool.not_true,Bool.not_false,zAl,zAo,zAe,zAc,zAa,if_true,if_false,Bool.false_eq_true,Bool.true_eq_false,decide_true,decide_false,reduceCtorEq,zAF,zCz,zCA,zCw,zCx,zCy,zAw,zAr]
  exact⟨by trivial,k12⟩
 rw[if_neg (by decide)]
 simp only[zTS,zAs]
 generalize hH3:h2.push (.cells #[.pointer none,.slice none 0 0] zAI (0,0))=h3
 have k3:Keep (fun _=>False) h2 h3:=by rw[<- hH3];exact Keep.push
 generalize hp:h2.size=p at *
 have hp1:h3[p]? = some (.cells #[.pointer none,.slice none 0 0] zAI (0,0)):=by rw[<- hH3,<- hp];exact zAR
 have hB:BAt (p < ·) p h3 []:=⟨Nat.lt_irrefl _,_,_,hp1,.inl rfl,.inl ⟨rfl,rfl⟩⟩
 have s3:h3.size=p+1:=by rw[<- hH3];simp[hp]
 have a3:=a2.keep k3 id
 have k13:=k12.trans k3
 have g1:=k1.1
 have g12:=k12.1
 have hN:NG<=p:=by have:=hT.sz;omega
 have hq:H.size<p:=by have:=a2.lt;omega
 rw[zAx,zAa,Nat.add_zero,zBE a3,zAa,zAx,zAa,Nat.zero_add,zFK a3 w,zAa]
 refine zAk (zU9 w.ver (hT.keep k13 fun _ h=>h.elim)) ?_
 rintro _ h4 ⟨rfl,k4⟩
 have a4:=a3.keep k4 id
 refine⟨zBE a4,?_⟩
 have hpk:(Value.string ⟨#[112,97,99,107,97,103,101]⟩)=str zGD:=rfl
 simp only[hpk,zAfO,zAV]
 generalize hH5:h4.push (.cells ([zGD,m.name,zFH m.ver].map str).toArray zAz (0,0))=h5
 have k5:Keep (fun _=>False) h4 h5:=by rw[<- hH5];exact Keep.push
 have b5:At h5 h4.size ([zGD,m.name,zFH m.ver].map str):=by rw[<- hH5];exact At.push
 have hok':=(show zXl m=true by have:=hokG;unfold zEt at this;rw[Bool.and_eq_true]at this;exact this.1)
 unfold zXl at hok'
 simp only[Bool.and_eq_true]at hok'
 obtain⟨⟨⟨ok1,ok2⟩,ok3⟩,ok4⟩:=hok'
 have l1:=zNn ok1
 have l2:=zOL (v:=m.ver) w.ver.p3
 refine zAk (zYZ b5 rfl (by simp) (by simp[total,zGD];omega)) ?_
 rintro _ h6 ⟨rfl,k6⟩
 have k36:=k4.trans (k5.trans k6)
 have g3:=k36.1
 have hB6:=hB.keep k36 fun _ _=>id
 have hl0:(zQ0 [zGD,m.name,zFH m.ver]).length<=100:=by
  have:=zOQ (l:=[zGD,m.name,zFH m.ver])
  simp[total,zGD]at this ⊢;omega
 refine zAk (zFR hB6 (by simp;omega) fun b hb=>by show p<b;omega) ?_
 rintro _ h7 ⟨rfl,hB7,k7⟩
 rw[List.nil_append]at hB7
 have k17:Keep (p <= ·) H h7:=((k13.trans k36).mono fun _ _ h=>h.elim).trans (k7.mono fun b _ hb=>by rcases hb with hb | hb <;> omega)
 have k37:Keep (p <= ·) h3 h7:=(k36.mono fun _ _ h=>h.elim).trans (k7.mono fun b _ hb=>by rcases hb with hb | hb <;> omega)
 have a7:=a3.keep k37 (show ¬ p<=H.size by omega)
 have hPp:∀ b,P b->b<p:=fun b hb=>by have:=hP b hb;omega
 have hPn:∀ b,P b->¬ p<=b:=fun b hb=>by have:=hPp b hb;omega
 have hv7:=hv.keep k17 hPn
 obtain⟨g5,g6,g7⟩:=zE9 a7 w
 have hdw:∀ l:List Dep,zLw m.name l=true->∀ d ∈ l,zG2 d.name=true:=fun l hl d hd=>by
  unfold zLw at hl
  simp only[Bool.and_eq_true,List.all_eq_true]at hl
  have:=hl.1.1 d hd
  unfold zPs at this
  simp only[Bool.and_eq_true]at this
  exact this.1.1
 have g77:=k37.1
 have lend:=hv7.d.len
 rw[List.length_map]at lend
 refine zL2 (fun _ h=>BAt (p < ·) p h (zQ0 [zGD,m.name,zFH m.ver]++(m.deps.map (zVf zT4)).flatten)/\Keep (p <= ·) h7 h) (fun k hk=>?_) ?_
 ·rw[zAx,zAa,Nat.zero_add,g5,zAa,lend,zAa]
  exact zT6 (w:=zT4) hv7.d hPp hB7 (by omega) w.deps (hdw _ ok3) hd (by decide) (by omega) (hO.keep k17 fun b hb=>by omega) (hT.keep k17 fun b hb=>by omega) hN fun u h hb k=>hk u h ⟨hb,k⟩
 rintro _ h8 ⟨hB8,k8⟩
 have k18:=k17.trans k8
 have a8:=a7.keep k8 (show ¬ p<=H.size by omega)
 have hv8:=hv.keep k18 hPn
 obtain⟨g5,g6,g7⟩:=zE9 a8 w
 have lenc:=hv8.c.len
 rw[List.length_map]at lenc
 have hfl:=zM2 (f:=zVf zT4) (n:=100) (l:=m.deps) fun x hx=>zNo (by decide) (w.deps x hx) (hdw _ ok3 x hx)
 have hd':m.deps.length * 100<=1048576 * 100:=Nat.mul_le_mul_right _ hd
 have g8:=k8.1
 refine zL2 (fun _ h=>BAt (p < ·) p h (zAbs m)/\Keep (p <= ·) h8 h) (fun k hk=>?_) ?_
 ·rw[zAx,zAa,Nat.zero_add,g6,zAa,lenc,zAa]
  exact zT6 (w:=zQb) hv8.c hPp hB8 (by omega) w.conf (hdw _ ok4) hc (by decide) (by rw[List.length_append];omega) (hO.keep k18 fun b hb=>by omega) (hT.keep k18 fun b hb=>by omega) hN fun u h hb k=>hk u h ⟨by unfold zAbs;rw[<- List.append_assoc];exact hb,k⟩
 rintro _ h9 ⟨hB9,k9⟩
 have k19:=k18.trans k9
 have a9:=a8.keep k9 (show ¬ p<=H.size by omega)
 have hv9:=hv.keep k19 hPn
 obtain⟨g5,g6,g7⟩:=zE9 a9 w
 have lenf:=hv9.f.len
 rw[List.length_map]at lenf
 obtain⟨f1,f2,f3⟩:=zKg hokG
 have f4:=zRd hokG
 have hfl2:=zM2 (f:=zVf zQb) (n:=100) (l:=m.conf) fun x hx=>zNo (by decide) (w.conf x hx) (hdw _ ok4 x hx)
 have hc':m.conf.length * 100<=1048576 * 100:=Nat.mul_le_mul_right _ hc
 have hms:(zAbs m).length<=1099511627:=by unfold zAbs;rw[List.length_append,List.length_append];omega
 refine zL2 (fun _ h=>BAt (p < ·) p h (zAe4 m)/\Keep (p <= ·) h9 h) (fun k hk=>?_) ?_
 ·rw[zAx,zAa,Nat.zero_add,g7,zAa,lenf,zAa]
  exact zAag hv9.f hPp hB9 (by have:=k9.1;omega) w.files (fun f hf=>⟨f3 f hf,f4 f hf⟩) f1 hms (hT.keep k19 fun b hb=>by omega) hN fun u h hb k=>hk u h ⟨hb,k⟩
 rintro _ h9' ⟨hB9',k9'⟩
 have hmg:=zWP w.files f3 f4 f1 hms
 refine zAk (zTT hB9' (by omega)) ?_
 rintro _ h10 ⟨rfl,k10⟩
 refine⟨by rw[if_pos trivial],?_⟩
 have kk:Keep (p <= ·) H h10:=(k19.trans k9').trans (k10.mono fun b _ hb=>by omega)
 exact⟨kk.1,fun i hi _=>kk.2 i hi (by omega)⟩
def zVA (m:Man):List UInt8:=if zEt m=true then zAe4 m else []
theorem zRm {m:Man}(w:∀ f ∈ m.files,f.wf)(hms:zEt m=true->(zAbs m).length<=1099511627):(zVA m).length<=1099611627:=by
 unfold zVA
 cases h:zEt m
 ·simp
 ·rw[if_pos rfl]
  obtain⟨f1,f2,f3⟩:=zKg h
  exact zWP w f3 (zRd h) f1 (hms h)
theorem zTd {m:Man}(w:m.wf)(hok:zEt m=true)(hd:m.deps.length<=1048576)(hc:m.conf.length<=1048576):(zAbs m).length<=1099511627:=by
 have hok':=(show zXl m=true by have:=hok;unfold zEt at this;rw[Bool.and_eq_true]at this;exact this.1)
 unfold zXl at hok'
 simp only[Bool.and_eq_true]at hok'
 obtain⟨⟨⟨ok1,ok2⟩,ok3⟩,ok4⟩:=hok'
 have l1:=zNn ok1
 have l2:=zOL (v:=m.ver) w.ver.p3
 have hl0:(zQ0 [zGD,m.name,zFH m.ver]).length<=100:=by
  have:=zOQ (l:=[zGD,m.name,zFH m.ver])
  simp[total,zGD]at this ⊢;omega
 have hdw:∀ l:List Dep,zLw m.name l=true->∀ d ∈ l,zG2 d.name=true:=fun l hl d hd=>by
  unfold zLw at hl
  simp only[Bool.and_eq_true,List.all_eq_true]at hl
  have:=hl.1.1 d hd
  unfold zPs at this
  simp only[Bool.and_eq_true]at this
  exact this.1.1
 have h1:=zM2 (f:=zVf zT4) (n:=100) (l:=m.deps) fun x hx=>zNo (by decide) (w.deps x hx) (hdw _ ok3 x hx)
 have h2:=zM2 (f:=zVf zQb) (n:=100) (l:=m.conf) fun x hx=>zNo (by decide) (w.conf x hx) (hdw _ ok4 x hx)
 unfold zAbs
 rw[List.length_append,List.length_append];omega
theorem zUz {P:Nat->Prop}{H:zAd}{m:Man}{vd vc vf:Value}(hv:zJJ P H m vd vc vf)(hP:∀ b,P b->b<H.size)(hd:m.deps.length<=1048576)(hc:m.conf.length<=1048576)(hO:zNR H)(hT:zTW H) :
  zAg prg zCP [.agg (zEN m vd vc vf).toArray] H fun u H'=>Sl (fun b=>H.size<=b/\b<H'.size) H' u (zVA m)/\Keep (fun _=>False) H H':=by
 apply zIn
 unfold zGo
 simp only[zAN,zAs]
 generalize hH1:H.push (.cells (zEN m vd vc vf).toArray zAb (0,0))=H1
 have k1:Keep (fun _=>False) H H1:=by rw[<- hH1];exact Keep.push
 have a1:At H1 H.size (zEN m vd vc vf):=by rw[<- hH1];exact At.push
 have w:=hv.wf
 have hln:=zRm w.files fun h=>zTd w h hd hc
 rw[zQZ a1 w,zAa]
 refine zAk (zAah (hv.keep k1 fun _ _=>id) (fun b hb=>Nat.lt_of_lt_of_le (hP b hb) k1.1) hd hc (hO.keep k1 fun _ h=>h.elim) (hT.keep k1 fun _ h=>h.elim)) ?_
 rintro _ h2 ⟨rfl,k2⟩
 have k02:=k1.trans k2
 have g02:=k02.1
 obtain⟨e,he⟩:∃ e,(if zEt m=true then Value.tuple #[str (zAe4 m),.int .i64 0] else .tuple #[str [],.int .i64 10]) = .tuple #[str (zVA m),e]:=by
  unfold zVA
  cases zEt m
  ·exact⟨_,rfl⟩
  ·exact⟨_,rfl⟩
 have x0:∀ a b:Value,zDy 0 (.tuple #[a,b])=some a:=fun _ _=>rfl
 have x1:∀ a b:Value,zDy 1 (.tuple #[a,b])=some b:=fun _ _=>rfl
 rw[he,x0,zAa,x1,zAa]
 refine zAdP (by omega) fun v h3 hs k3=>?_
 have hk:=k02.trans k3
 refine⟨⟨hs.bs,hs.sl,fun b hb=>?_⟩,hk⟩
 have e2:=hs.own b hb
 subst e2
 refine⟨g02,?_⟩
 rcases hs.cases with ⟨a,c,rfl,_⟩ | ⟨b',o,c,cs,T,f,rfl,_,_,hb',_⟩
 ·cases a <;> simp[blk]at hb
 ·have:=lt_of hb'
  obtain⟨rfl,_⟩:=zHu hb
  exact this
end Go.Proofs.YticdfkoncnnmmaaGreatDoor
