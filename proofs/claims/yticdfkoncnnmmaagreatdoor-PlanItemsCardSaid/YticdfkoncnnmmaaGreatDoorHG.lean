import Derived.Test.YticdfkoncnnmmaaGreatDoorGI
import Derived.Test.YticdfkoncnnmmaaGreatDoorHA
import Derived.Test.YticdfkoncnnmmaaGreatDoorG6
import Derived.Test.YticdfkoncnnmmaaGreatDoorG1
import Derived.Test.YticdfkoncnnmmaaGreatDoorHB
import Derived.Test.YticdfkoncnnmmaaGreatDoorGO
set_option linter.unusedSimpArgs false
set_option linter.unusedVariables false
namespace Go.Proofs.YticdfkoncnnmmaaGreatDoor
open Go.X Go.X.Diff
set_option maxRecDepth 100000
set_option linter.unusedSimpArgs false
set_option linter.unusedVariables false
def hxL:List UInt8:=[48,49,50,51,52,53,54,55,56,57,97,98,99,100,101,102]
def hxD(n:Nat):UInt8:=hxL.getD n 0
def hx2(c:UInt8):List UInt8:=[hxD(c.toNat / 16),hxD(c.toNat % 16)]
theorem zU3{n:Nat}(h:n<16):hxL[n]? = some(hxD n):=by
  unfold hxD
  have:n<hxL.length:=h
  simp[List.getD,this]
theorem u8s:∀ c:UInt8,binV .no .shr(.int .u8(c.toNat:Nat))(.int .u64 4)=some(.int .u8((c.toNat / 16:Nat):Int)):=fun c=>by
  rw[v_shr(by omega)]
  exact congrArg(fun z=>some(Value.int .u8 z))(zKy(k := .u8)(u:=c.toNat)(b:=4)(by decide))
theorem zXB:∀ n:Fin 256,(IntKind.u8.wrap((BitVec.ofInt IntKind.u8.bits((n.1:Nat):Int) &&& BitVec.ofInt IntKind.u8.bits 15).toNat:Int))=((n.1 % 16:Nat):Int):=by decide +kernel
theorem u8a:∀ c:UInt8,binV .no .and(.int .u8(c.toNat:Nat))(.int .u8 15)=some(.int .u8((c.toNat % 16:Nat):Int)):=fun c=>by
  rw[zAg];simp only[intV]
  congr 2
  exact zXB⟨c.toNat,c.toNat_lt⟩
theorem bsl2w{a b:Int}:bslV prg zAy 2 [(0,.int .u8 a),(1,.int .u8 b)]=some #[.int .u8 a,.int .u8 b]:=by kernel_rfl
theorem zR1{d:List UInt8}:((d.map hx2).flatten).length=2 * d.length:=by
  induction d with
  | nil=>rfl
  | cons a d ih=>rw[List.map_cons,List.flatten_cons,List.length_append,ih];simp[hx2];omega
theorem zTG{H:Heap}{l:List UInt8}(hl:l.length=32):HCalls prg zFW [bv l] H fun u H'=>u=str((l.map hx2).flatten)∧Keep(fun _=>False)H H':=by
  apply zLN
  unfold zK0
  have ec:Value.cells(bv l)=(bcells l).toArray:=rfl
  rw[ec,zAp]
  generalize hH1:H.push(.cells(bcells l).toArray zAF(0,0))=h1
  have k1:Keep(fun _=>False)H h1:=by rw[← hH1];exact Keep.push
  have a1:At h1 H.size(bcells l):=by rw[← hH1];exact At.push
  have g1:=k1.1
  have sh:(Value.string⟨#[48,49,50,51,52,53,54,55,56,57,97,98,99,100,101,102]⟩)=str hxL:=rfl
  rw[sh]
  refine J2_i(fun u _ h=>Buf(h1.size ≤ ·)h u((l.map hx2).flatten)∧Keep(fun _=>False)H h)(fun k hk=>?_)?_
  · rw[a1.ldN(n:=32)(by simp[hl]),zAa]
    refine L2_i(fun u t h=>∃ i:Nat,i≤32∧t = .int .i64(i:Nat)∧Buf(h1.size ≤ ·)h u(((l.take i).map hx2).flatten)∧Keep(fun _=>False)h1 h)(fun _ u _=>match u with | .int _ t=>32 - t.toNat | _=>0)⟨0,Nat.zero_le _,rfl,.inl⟨rfl,rfl⟩,Keep.refl⟩?_
    rintro u _ h⟨i,hi,rfl,hb,kh⟩kk hkk
    have el:binV .no .lss(.int .i64(i:Nat))(.int .i64 32)=some(.bool(decide(i<32))):=by
      rw[zAg];simp only[intV];congr 2;rw[decide_eq_decide];omega
    rw[el,zAa,zAb]
    by_cases hlt:i<32
    rotate_left
    · rw[if_neg(by simpa using hlt)]
      rw[List.take_of_length_le(by omega)]at hb
      exact hk _ _ _⟨hb,k1.trans kh⟩
    rw[if_pos(by simpa using hlt)]
    have hg:l[i]? = some(l[i]'(by omega)):=List.getElem?_eq_getElem(by omega)
    have hix:ixV 32 false 1(.agg(bcells l).toArray)(.int .i64(i:Nat))=some(.int .u8((l[i]'(by omega)).toNat:Nat)):=by
      simp only[ixV]
      rw[if_pos⟨by omega,by omega⟩]
      simp only[Bool.false_eq_true,if_false,Nat.mul_one,Int.toNat_natCast]
      rw[List.getElem?_toArray]
      unfold bcells
      rw[List.getElem?_map,hg];rfl
    have htk:((l.take(i+1)).map hx2).flatten=((l.take i).map hx2).flatten++hx2(l[i]'(by omega)):=by
      rw[List.take_add_one,hg,List.map_append,List.flatten_append]
      simp only[Option.toList_some,List.map_cons,List.map_nil,List.flatten_cons,List.flatten_nil,List.append_nil]
    generalize l[i]'(by omega)=c at *
    have hc:=c.toNat_lt
    have h1':=zU3(n:=c.toNat / 16)(by omega)
    have h2':=zU3(n:=c.toNat % 16)(by omega)
    rw[hix,zAa,u8s,zAa,zEg h1',zAa,u8a,zAa,zEg h2',zAa,bsl2w,zAJ]
    generalize hH5:h.push(.cells #[.int .u8((hxD(c.toNat / 16)).toNat:Nat),.int .u8((hxD(c.toNat % 16)).toNat:Nat)] zAy(0,0))=h5
    have k5:Keep(fun _=>False)h h5:=by rw[← hH5];exact Keep.push
    have s5:h5.size=h.size+1:=by rw[← hH5];simp
    have hbs:Bs h5(.slice(some⟨h.size,0,none⟩)2 2)(hx2 c):=by
      rw[← hH5];exact Bs.mk zAA rfl(by simp)rfl
    have gh:=kh.1
    have hl3:(l.take i).length≤32:=by rw[List.length_take];omega
    refine(hb.keep k5 fun _ _=>id).app hbs(by rw[zR1];show _+2≤_;omega)(by show h1.size≤h5.size;omega)fun v2 h6 hv2 k6=>?_
    rw[zAv(by omega),zAa]
    exact hkk _ _ _⟨i+1,by omega,rfl,by rw[htk];exact hv2,(kh.trans k5).fresh k6 fun b hb=>hb⟩(by show 32 - (i+1)<32 - i;omega)
  · rintro u _ h⟨hb,kh⟩
    rw[hb.sl.b2s,zAa]
    exact⟨rfl,kh⟩
end Go.Proofs.YticdfkoncnnmmaaGreatDoor
namespace Go.Proofs.YticdfkoncnnmmaaGreatDoor
open Go.X Go.X.Diff
set_option maxRecDepth 100000
theorem zQv{Pd:Nat→Prop}{H:Heap}{v:Value}{m:List UInt8}(hx:Sl Pd H v m)(hT:ShaT H)(hPd:∀ b,Pd b→b<H.size)(hl:m.length≤1099511627776) :
    HCalls prg zKe [v] H fun u H'=>u=bv(shaF(0 :: m))∧Keep(fun _=>False)H H':=by
  apply zNR
  unfold zN5
  obtain⟨va,vc,hve,_⟩:=hx.sl
  simp only[zOU,zAp,hve,bsl1S,zAJ]
  rw[← hve]
  generalize hH2:H.push(.cells(bcells zeroH).toArray zAF(0,0))=H2
  have k2:Keep(fun _=>False)H H2:=by rw[← hH2];exact Keep.push
  have hs2:H2.size=H.size+1:=by rw[← hH2];simp
  have hr2:H2[H.size]? = some(.cells(bcells zeroH).toArray zAF(0,0)):=by rw[← hH2];exact zAA
  generalize hH3:H2.push(.cells #[v] zBG(0,0))=H3
  have k3:Keep(fun _=>False)H2 H3:=by rw[← hH3];exact Keep.push
  have hs3:H3.size=H2.size+1:=by rw[← hH3];simp
  have hv3:H3[H2.size]? = some(.cells #[v] zBG(0,0)):=by rw[← hH3];exact zAA
  have kk:Keep(fun _=>False)H H3:=k2.trans k3
  have sv:Sl Pd H3 v m:=hx.keep kk fun _ _=>id
  have hvv:SlE 1(· = H2.size)H3(.slice(some⟨H2.size,0,none⟩)1 1)(rows1([(v,m)].map(·.1))):=by
    refine⟨⟨_,1,rfl,Nat.le_refl _,.inr⟨H2.size,0,rfl,rfl,?_⟩⟩,zJb,zOZ(P:=Pd)(H:=H3)?_⟩
    · rw[zGK];exact Pt.of hv3
    · intro x hx;simp at hx;subst hx;exact sv
  refine zAf(zP5(Pd:=Pd)hvv ?_(hT.keep kk fun _ h=>h.elim)(fun b hb=>by omega)(fun b hb=>?_)?_(by simp))?_
  · intro x hx;simp at hx;subst hx;exact sv
  · have:=hPd b hb;omega
  · simp[partsB];omega
  rintro _ H4⟨rfl,k4⟩
  have hr4:=(k3.trans k4).at hr2 id
  have e6:(bO 0 :: partsB [(v,m)])=0 :: m:=by simp[partsB];rfl
  rw[zLm hr4(n:=32)rfl zC3,zAi,zJC(zAr hr4)zC3,zAa]
  refine⟨by rw[e6],?_⟩
  have:=(kk.trans k4)
  refine⟨by simp;exact this.1,fun i hi _=>?_⟩
  rw[Array.getElem?_setIfInBounds,if_neg(by omega),this.2 i hi id]
end Go.Proofs.YticdfkoncnnmmaaGreatDoor
namespace Go.Proofs.YticdfkoncnnmmaaGreatDoor
open Go.X Go.X.Diff
set_option maxRecDepth 100000
set_option linter.unusedSimpArgs false
set_option linter.unusedVariables false
def wFileG:List UInt8:=[102,105,108,101]
def fileL(f:MFile):List UInt8:=lineF [wFileG,f.name,intS f.size,(f.sum.map hx2).flatten]
def manG(m:Man):List UInt8:=manS m++(m.files.map fileL).flatten
theorem bsl4s{a b c d:List UInt8}:bslV prg zAu 4 [(0,str a),(1,str b),(2,str c),(3,str d)]=some([a,b,c,d].map str).toArray:=by kernel_rfl
theorem zPH:∀ {k n:Nat},1≤k→n<10 ^ k→(decF n).length≤k
  | 0,_,h,_=>by omega
  | 1,n,_,h=>by rw[decF,if_pos(by omega)];simp
  | k+2,n,_,h=>by
    rw[decF]
    split
    · simp
    · have h1:n / 10<10 ^ (k+1):=by
        rw[Nat.div_lt_iff_lt_mul(by omega)]
        rw[Nat.pow_succ]at h;exact h
      have:=zPH(k:=k+1)(n:=n / 10)(by omega)h1
      rw[List.length_append,List.length_singleton];omega
theorem zS4{n:Int}(h1 : -9223372036854775808≤n)(h:n≤1048576):(intS n).length≤100:=by
  unfold intS
  split
  · have:=zPH(k:=19)(n:=(-n).toNat)(by omega)(by omega)
    rw[List.length_cons];omega
  · have:=zPH(k:=19)(n:=n.toNat)(by omega)(by omega);omega
theorem zNC{f:MFile}(w:f.wf)(h1:f.name.length≤64)(h2:f.size≤1048576):(fileL f).length≤300:=by
  have:=zLw(l:=[wFileG,f.name,intS f.size,(f.sum.map hx2).flatten])
  have h3:=zS4 w.size.1 h2
  have h4:=zR1(d:=f.sum)
  have h5:=w.sum
  unfold fileL
  simp[total,wFileG]at this ⊢
  have h6:(List.map(List.length ∘ hx2)f.sum).sum=2 * f.sum.length:=by
    rw[← h4];simp[List.length_flatten]
  omega
theorem zR2{m:Man}(w:∀ f ∈ m.files,f.wf)(f3:∀ f ∈ m.files,f.name.length≤64)(f4:∀ f ∈ m.files,f.size≤1048576)(f1:m.files.length≤64)(hms:(manS m).length≤1099511627):(manG m).length≤1099611627:=by
  have:=zH5(f:=fileL)(n:=300)(l:=m.files)fun x hx=>zNC(w x hx)(f3 x hx)(f4 x hx)
  unfold manG
  rw[List.length_append];omega
theorem zU4{P:Nat→Prop}{p:Nat}{H:Heap}{v:Value}{l:List MFile}{acc:List UInt8}{k:Value→Heap→Prop}
    (hv:SlE 34 P H v(l.map fileC))(hP:∀ b,P b→b<p)(hb:BAt(p < ·)p H acc)(hp:p<H.size)(hw:∀ d ∈ l,d.wf)(hok:∀ d ∈ l,d.name.length≤64∧d.size≤1048576)(hl:l.length≤64)(hacc:acc.length≤1099511627)
    (hT:PowT H)(hN:NG≤p)
    (hk:∀ u h,BAt(p < ·)p h(acc++(l.map fileL).flatten)→Keep(p ≤ ·)H h→k u h) :
    L1(fun k30=>fun t57_2 h31 =>
        Mpu(binV .no .lss t57_2(.int .i64(l.length:Nat)))fun t58 =>
        Mcd t58(
          Mpu(ixS 34 v t57_2)fun t59 =>
          Mpu(ldN 34 h31 t59)fun t60 =>
          Mnew h31 zAt(zcells prg zAt)fun t10 h32 =>
          Mwr(stN 34 h32 t10 t60)fun h33 =>
          Mpu(fld 0 t10)fun t61 =>
          Mpu(ld1 h33 t61)fun t62 =>
          Mpu(fld 33 t10)fun t63 =>
          Mpu(ld1 h33 t63)fun t64 =>
          Mpu(fld 1 t10)fun t66 =>
          Mpu(ldN 32 h33 t66)fun t67 =>
          Mcall prg zCk [t64] h33 fun t65 h34 =>
          Mre [(ldN 32 h34 t66,t67),(ld1 h34 t61,t62)](
          Mcall prg zFW [t67] h34 fun t68 h35 =>
          Mre [(ld1 h35 t61,t62)](
          Mnews h35 zAu 4(bslV prg zAu 4 [(0,str wFileG),(1,t62),(2,t65),(3,t68)])fun t69 h36 =>
          Mcall prg zBZ [t69] h36 fun t70 h37 =>
          Mcall prg zAI [Ptr p 0,t70] h37 fun _ h38 =>
          Mpu(binV .no .add t57_2(.int .i64 1))fun t72 =>
          k30 t72 h38)))(
          k t57_2 h31))((.int .i64 0))H:=by
  refine L1_i(fun u h=>∃ i:Nat,i≤l.length∧u = .int .i64(i:Nat)∧BAt(p < ·)p h(acc++((l.take i).map fileL).flatten)∧Keep(p ≤ ·)H h)(fun u _=>match u with | .int _ t=>l.length - t.toNat | _=>0)⟨0,Nat.zero_le _,rfl,by simpa using hb,Keep.refl⟩?_
  rintro _ h⟨i,hi,rfl,hbi,kh⟩k2 hk2
  rw[ltNn,zAa,zAb]
  by_cases hlt:i<l.length
  rotate_left
  · rw[if_neg(by simpa using hlt)]
    rw[List.take_of_length_le(by omega)]at hbi
    exact hk _ _ hbi kh
  rw[if_pos(by simpa using hlt)]
  have hg:l[i]? = some l[i]:=List.getElem?_eq_getElem hlt
  obtain⟨b,o,hix,hpt,_⟩:=(hv.keep kh fun b hb=>by have:=hP b hb;omega).at(i:=i)(x:=fileC l[i])(by rw[List.getElem?_map,hg];rfl)
  have hwd:=hw _(List.getElem_mem hlt)
  have hnd:=hok _(List.getElem_mem hlt)
  have htk:((l.take(i+1)).map fileL).flatten=((l.take i).map fileL).flatten++fileL l[i]:=by
    rw[List.take_add_one,hg,List.map_append,List.flatten_append]
    simp only[Option.toList_some,List.map_cons,List.map_nil,List.flatten_cons,List.flatten_nil,List.append_nil]
  generalize l[i]=f at *
  rw[hix .i64,zAa,hpt.agg(zA3 hwd),zAa]
  simp only[zRt,zAp,zAq,Nat.zero_add,Nat.add_zero,zAa]
  generalize hH6:h.push(.cells(fileC zeroF).toArray zAt(0,0))=h6
  have k6:Keep(fun _=>False)h h6:=by rw[← hH6];exact Keep.push
  have a6:At h6 h.size(fileC zeroF):=by rw[← hH6];exact At.push
  obtain⟨h7,st7,a7,k7⟩:=a6.st(n:=34)(ds:=fileC f)(zA3 zOv)(zA3 hwd)zGz
  have g1:=kh.1
  have g6:=k6.1
  have k17:Keep(fun _=>False)h h7:=k6.fresh k7 fun b hb=>by omega
  have kH7:Keep(p ≤ ·)H h7:=kh.trans(k17.mono fun _ _ h=>h.elim)
  have d0:∀ h',Keep(fun _=>False)h7 h'→ld1 h'(Ptr h.size 0)=some(str f.name):=fun h' k=>(a7.keep k id).ld rfl
  have d1:∀ h',Keep(fun _=>False)h7 h'→ldN 32 h'(Ptr h.size 1)=some(bv f.sum):=fun h' k=>by
    have:=zRu(a7.keep k id).pt hwd
    rwa [Nat.zero_add]at this
  have d33:=zPB a7.pt hwd
  rw[Nat.zero_add]at d33
  rw[st7,zAi,d0 _ Keep.refl,zAa,d33,zAa,d1 _ Keep.refl,zAa]
  refine zAf(zW9 hwd.size.1 hwd.size.2(hT.keep kH7 fun b hb=>by omega))?_
  rintro _ h8⟨rfl,k8⟩
  rw[d1 _ k8,d0 _ k8,zAo,zAo,zAm]
  refine zAf(zTG hwd.sum)?_
  rintro _ h8'⟨rfl,k8'⟩
  rw[d0 _(k8.trans k8'),zAo,zAm,bsl4s,zAJ]
  generalize hH9:h8'.push(.cells([wFileG,f.name,intS f.size,(f.sum.map hx2).flatten].map str).toArray zAu(0,0))=h9
  have k9:Keep(fun _=>False)h8' h9:=by rw[← hH9];exact Keep.push
  have a9:At h9 h8'.size([wFileG,f.name,intS f.size,(f.sum.map hx2).flatten].map str):=by rw[← hH9];exact At.push
  have hdl:(fileL f).length≤300:=zNC hwd hnd.1 hnd.2
  have hil:=zS4 hwd.size.1 hnd.2
  have hxl:=zR1(d:=f.sum)
  have hsl:=hwd.sum
  refine zAf(zRs a9 rfl(by simp)(by
    have e:total [wFileG,f.name,intS f.size,(f.sum.map hx2).flatten]=4+(f.name.length+((intS f.size).length+((f.sum.map hx2).flatten).length)):=by
      generalize(f.sum.map hx2).flatten=z
      unfold total
      simp[wFileG]
      omega
    rw[e];omega))?_
  rintro _ h10⟨rfl,k10⟩
  have kk:Keep(fun _=>False)h h10:=k17.trans((k8.trans k8').trans(k9.trans k10))
  have hb10:=hbi.keep kk fun _ _=>id
  have hfl:=zH5(f:=fileL)(n:=300)(l:=l.take i)fun x hx=>zNC(hw x(List.mem_of_mem_take hx))(hok x(List.mem_of_mem_take hx)).1(hok x(List.mem_of_mem_take hx)).2
  have hti:(l.take i).length≤64:=by rw[List.length_take];omega
  have hsz:=kk.1
  refine zAf(zEh hb10(by
    rw[List.length_append]
    have:(lineF [wFileG,f.name,intS f.size,(f.sum.map hx2).flatten]).length≤300:=hdl
    omega)fun b hb=>by show p<b;omega)?_
  rintro _ h11⟨rfl,hb11,k11⟩
  rw[zAv(by omega),zAa]
  refine hk2 _ _⟨i+1,by omega,rfl,?_,?_⟩(by show l.length - (i+1)<l.length - i;omega)
  · rw[htk,← List.append_assoc];exact hb11
  · exact(kh.trans(kk.mono fun _ _ h=>h.elim)).trans(k11.mono fun b _ hb=>by rcases hb with hb | hb <;> omega)
theorem zU5{P:Nat→Prop}{H:Heap}{m:Man}{vd vc vf:Value}(hv:ManV P H m vd vc vf)(hP:∀ b,P b→b<H.size)(hd:m.deps.length≤1048576)(hc:m.conf.length≤1048576)(hO:OpsT H)(hT:PowT H) :
    HCalls prg zDR [.agg(manC m vd vc vf).toArray] H fun u H'=>u=(if manOkG m=true then .tuple #[str(manG m),.int .i64 0] else .tuple #[str [],.int .i64 10])∧Keep(fun _=>False)H H':=by
  apply zIl
  unfold zF9
  simp only[zAC,zAp]
  generalize hH1:H.push(.cells(manC m vd vc vf).toArray zAc(0,0))=H1
  have k1:Keep(fun _=>False)H H1:=by rw[← hH1];exact Keep.push
  have a1:At H1 H.size(manC m vd vc vf):=by rw[← hH1];exact At.push
  have w:=hv.wf
  rw[zK8 a1 w,zAa]
  refine zAf(zMG(hv.keep k1 fun _ _=>id)(by omega)(by omega)(hO.keep k1 fun _ h=>h.elim))?_
  rintro _ h2⟨rfl,k2⟩
  have a2:=a1.keep k2 id
  have k12:=k1.trans k2
  rw[zAl,zAa,zAb]
  cases hokG:manOkG m
  · simp only[zAl,Bool.not_true,Bool.not_false,zAh,zAj,zAd,zAb,zAa,if_true,if_false,Bool.false_eq_true,Bool.true_eq_false,decide_true,decide_false,reduceCtorEq,J1_eq,ex20,ex21,ex30,ex31,ex32,zAo,zAm]
    exact⟨by trivial,k12⟩
  rw[if_neg(by decide)]
  simp only[zP6,zAp]
  generalize hH3:h2.push(.cells #[.pointer none,.slice none 0 0] zAD(0,0))=h3
  have k3:Keep(fun _=>False)h2 h3:=by rw[← hH3];exact Keep.push
  generalize hp:h2.size=p at *
  have hp1:h3[p]? = some(.cells #[.pointer none,.slice none 0 0] zAD(0,0)):=by rw[← hH3,← hp];exact zAA
  have hB:BAt(p < ·)p h3 []:=⟨Nat.lt_irrefl _,_,_,hp1,.inl rfl,.inl⟨rfl,rfl⟩⟩
  have s3:h3.size=p+1:=by rw[← hH3];simp[hp]
  have a3:=a2.keep k3 id
  have k13:=k12.trans k3
  have g1:=k1.1
  have g12:=k12.1
  have hN:NG≤p:=by have:=hT.sz;omega
  have hq:H.size<p:=by have:=a2.lt;omega
  rw[zAq,zAa,Nat.add_zero,zAV a3,zAa,zAq,zAa,Nat.zero_add,zCq a3 w,zAa]
  refine zAf(zPy w.ver(hT.keep k13 fun _ h=>h.elim))?_
  rintro _ h4⟨rfl,k4⟩
  have a4:=a3.keep k4 id
  refine⟨zAV a4,?_⟩
  have hpk:(Value.string⟨#[112,97,99,107,97,103,101]⟩)=str wPackage:=rfl
  simp only[hpk,bsl3s,zAJ]
  generalize hH5:h4.push(.cells([wPackage,m.name,showF m.ver].map str).toArray zAu(0,0))=h5
  have k5:Keep(fun _=>False)h4 h5:=by rw[← hH5];exact Keep.push
  have b5:At h5 h4.size([wPackage,m.name,showF m.ver].map str):=by rw[← hH5];exact At.push
  have hok':=(show manOk m=true by have:=hokG;unfold manOkG at this;rw[Bool.and_eq_true]at this;exact this.1)
  unfold manOk at hok'
  simp only[Bool.and_eq_true]at hok'
  obtain⟨⟨⟨ok1,ok2⟩,ok3⟩,ok4⟩:=hok'
  have l1:=nameOk_len ok1
  have l2:=zLv(v:=m.ver)w.ver.p3
  refine zAf(zRs b5 rfl(by simp)(by simp[total,wPackage];omega))?_
  rintro _ h6⟨rfl,k6⟩
  have k36:=k4.trans(k5.trans k6)
  have g3:=k36.1
  have hB6:=hB.keep k36 fun _ _=>id
  have hl0:(lineF [wPackage,m.name,showF m.ver]).length≤100:=by
    have:=zLw(l:=[wPackage,m.name,showF m.ver])
    simp[total,wPackage]at this ⊢;omega
  refine zAf(zEh hB6(by simp;omega)fun b hb=>by show p<b;omega)?_
  rintro _ h7⟨rfl,hB7,k7⟩
  rw[List.nil_append]at hB7
  have k17:Keep(p ≤ ·)H h7:=((k13.trans k36).mono fun _ _ h=>h.elim).trans(k7.mono fun b _ hb=>by rcases hb with hb | hb <;> omega)
  have k37:Keep(p ≤ ·)h3 h7:=(k36.mono fun _ _ h=>h.elim).trans(k7.mono fun b _ hb=>by rcases hb with hb | hb <;> omega)
  have a7:=a3.keep k37(show ¬ p≤H.size by omega)
  have hPp:∀ b,P b→b<p:=fun b hb=>by have:=hP b hb;omega
  have hPn:∀ b,P b→¬ p≤b:=fun b hb=>by have:=hPp b hb;omega
  have hv7:=hv.keep k17 hPn
  obtain⟨g5,g6,g7⟩:=zCr a7 w
  have hdw:∀ l:List Dep,depsOk m.name l=true→∀ d ∈ l,nameOk d.name=true:=fun l hl d hd=>by
    unfold depsOk at hl
    simp only[Bool.and_eq_true,List.all_eq_true]at hl
    have:=hl.1.1 d hd
    unfold depAt at this
    simp only[Bool.and_eq_true]at this
    exact this.1.1
  have g77:=k37.1
  have lend:=hv7.d.len
  rw[List.length_map]at lend
  refine J1_i(fun _ h=>BAt(p < ·)p h(lineF [wPackage,m.name,showF m.ver]++(m.deps.map(depL wNeeds)).flatten)∧Keep(p ≤ ·)h7 h)(fun k hk=>?_)?_
  · rw[zAq,zAa,Nat.zero_add,g5,zAa,lend,zAa]
    exact zQf(w:=wNeeds)hv7.d hPp hB7(by omega)w.deps(hdw _ ok3)hd(by decide)(by omega)(hO.keep k17 fun b hb=>by omega)(hT.keep k17 fun b hb=>by omega)hN fun u h hb k=>hk u h⟨hb,k⟩
  rintro _ h8⟨hB8,k8⟩
  have k18:=k17.trans k8
  have a8:=a7.keep k8(show ¬ p≤H.size by omega)
  have hv8:=hv.keep k18 hPn
  obtain⟨g5,g6,g7⟩:=zCr a8 w
  have lenc:=hv8.c.len
  rw[List.length_map]at lenc
  have hfl:=zH5(f:=depL wNeeds)(n:=100)(l:=m.deps)fun x hx=>zJq(by decide)(w.deps x hx)(hdw _ ok3 x hx)
  have hd':m.deps.length * 100≤1048576 * 100:=Nat.mul_le_mul_right _ hd
  have g8:=k8.1
  refine J1_i(fun _ h=>BAt(p < ·)p h(manS m)∧Keep(p ≤ ·)h8 h)(fun k hk=>?_)?_
  · rw[zAq,zAa,Nat.zero_add,g6,zAa,lenc,zAa]
    exact zQf(w:=wRefuses)hv8.c hPp hB8(by omega)w.conf(hdw _ ok4)hc(by decide)(by rw[List.length_append];omega)(hO.keep k18 fun b hb=>by omega)(hT.keep k18 fun b hb=>by omega)hN fun u h hb k=>hk u h⟨by unfold manS;rw[← List.append_assoc];exact hb,k⟩
  rintro _ h9⟨hB9,k9⟩
  have k19:=k18.trans k9
  have a9:=a8.keep k9(show ¬ p≤H.size by omega)
  have hv9:=hv.keep k19 hPn
  obtain⟨g5,g6,g7⟩:=zCr a9 w
  have lenf:=hv9.f.len
  rw[List.length_map]at lenf
  obtain⟨f1,f2,f3⟩:=zGC hokG
  have f4:=zNz hokG
  have hfl2:=zH5(f:=depL wRefuses)(n:=100)(l:=m.conf)fun x hx=>zJq(by decide)(w.conf x hx)(hdw _ ok4 x hx)
  have hc':m.conf.length * 100≤1048576 * 100:=Nat.mul_le_mul_right _ hc
  have hms:(manS m).length≤1099511627:=by unfold manS;rw[List.length_append,List.length_append];omega
  refine J1_i(fun _ h=>BAt(p < ·)p h(manG m)∧Keep(p ≤ ·)h9 h)(fun k hk=>?_)?_
  · rw[zAq,zAa,Nat.zero_add,g7,zAa,lenf,zAa]
    exact zU4 hv9.f hPp hB9(by have:=k9.1;omega)w.files(fun f hf=>⟨f3 f hf,f4 f hf⟩)f1 hms(hT.keep k19 fun b hb=>by omega)hN fun u h hb k=>hk u h⟨hb,k⟩
  rintro _ h9'⟨hB9',k9'⟩
  have hmg:=zR2 w.files f3 f4 f1 hms
  refine zAf(zP7 hB9'(by omega))?_
  rintro _ h10⟨rfl,k10⟩
  refine⟨by rw[if_pos trivial],?_⟩
  have kk:Keep(p ≤ ·)H h10:=(k19.trans k9').trans(k10.mono fun b _ hb=>by omega)
  exact⟨kk.1,fun i hi _=>kk.2 i hi(by omega)⟩
end Go.Proofs.YticdfkoncnnmmaaGreatDoor
namespace Go.Proofs.YticdfkoncnnmmaaGreatDoor
open Go.X Go.X.Diff
set_option maxRecDepth 100000
set_option linter.unusedSimpArgs false
set_option linter.unusedVariables false
def leafB(m:Man):List UInt8:=if manOkG m=true then manG m else []
theorem zND{m:Man}(w:∀ f ∈ m.files,f.wf)(hms:manOkG m=true→(manS m).length≤1099511627):(leafB m).length≤1099611627:=by
  unfold leafB
  cases h:manOkG m
  · simp
  · rw[if_pos rfl]
    obtain⟨f1,f2,f3⟩:=zGC h
    exact zR2 w f3(zNz h)f1(hms h)
theorem zOE{m:Man}(w:m.wf)(hok:manOkG m=true)(hd:m.deps.length≤1048576)(hc:m.conf.length≤1048576):(manS m).length≤1099511627:=by
  have hok':=(show manOk m=true by have:=hok;unfold manOkG at this;rw[Bool.and_eq_true]at this;exact this.1)
  unfold manOk at hok'
  simp only[Bool.and_eq_true]at hok'
  obtain⟨⟨⟨ok1,ok2⟩,ok3⟩,ok4⟩:=hok'
  have l1:=nameOk_len ok1
  have l2:=zLv(v:=m.ver)w.ver.p3
  have hl0:(lineF [wPackage,m.name,showF m.ver]).length≤100:=by
    have:=zLw(l:=[wPackage,m.name,showF m.ver])
    simp[total,wPackage]at this ⊢;omega
  have hdw:∀ l:List Dep,depsOk m.name l=true→∀ d ∈ l,nameOk d.name=true:=fun l hl d hd=>by
    unfold depsOk at hl
    simp only[Bool.and_eq_true,List.all_eq_true]at hl
    have:=hl.1.1 d hd
    unfold depAt at this
    simp only[Bool.and_eq_true]at this
    exact this.1.1
  have h1:=zH5(f:=depL wNeeds)(n:=100)(l:=m.deps)fun x hx=>zJq(by decide)(w.deps x hx)(hdw _ ok3 x hx)
  have h2:=zH5(f:=depL wRefuses)(n:=100)(l:=m.conf)fun x hx=>zJq(by decide)(w.conf x hx)(hdw _ ok4 x hx)
  unfold manS
  rw[List.length_append,List.length_append];omega
theorem zQw{P:Nat→Prop}{H:Heap}{m:Man}{vd vc vf:Value}(hv:ManV P H m vd vc vf)(hP:∀ b,P b→b<H.size)(hd:m.deps.length≤1048576)(hc:m.conf.length≤1048576)(hO:OpsT H)(hT:PowT H) :
    HCalls prg zCy [.agg(manC m vd vc vf).toArray] H fun u H'=>Sl(fun b=>H.size≤b∧b<H'.size)H' u(leafB m)∧Keep(fun _=>False)H H':=by
  apply zIi
  unfold zF6
  simp only[zAC,zAp]
  generalize hH1:H.push(.cells(manC m vd vc vf).toArray zAc(0,0))=H1
  have k1:Keep(fun _=>False)H H1:=by rw[← hH1];exact Keep.push
  have a1:At H1 H.size(manC m vd vc vf):=by rw[← hH1];exact At.push
  have w:=hv.wf
  have hln:=zND w.files fun h=>zOE w h hd hc
  rw[zK8 a1 w,zAa]
  refine zAf(zU5(hv.keep k1 fun _ _=>id)(fun b hb=>Nat.lt_of_lt_of_le(hP b hb)k1.1)hd hc(hO.keep k1 fun _ h=>h.elim)(hT.keep k1 fun _ h=>h.elim))?_
  rintro _ h2⟨rfl,k2⟩
  have k02:=k1.trans k2
  have g02:=k02.1
  obtain⟨e,he⟩:∃ e,(if manOkG m=true then Value.tuple #[str(manG m),.int .i64 0] else .tuple #[str [],.int .i64 10]) = .tuple #[str(leafB m),e]:=by
    unfold leafB
    cases manOkG m
    · exact⟨_,rfl⟩
    · exact⟨_,rfl⟩
  have x0:∀ a b:Value,extV 0(.tuple #[a,b])=some a:=fun _ _=>rfl
  have x1:∀ a b:Value,extV 1(.tuple #[a,b])=some b:=fun _ _=>rfl
  rw[he,x0,zAa,x1,zAa]
  refine s2b_i(by omega)fun v h3 hs k3=>?_
  have hk:=k02.trans k3
  refine⟨⟨hs.bs,hs.sl,fun b hb=>?_⟩,hk⟩
  have e2:=hs.own b hb
  subst e2
  refine⟨g02,?_⟩
  rcases hs.cases with⟨a,c,rfl,_⟩ | ⟨b',o,c,cs,T,f,rfl,_,_,hb',_⟩
  · cases a <;> simp[blk]at hb
  · have:=lt_of hb'
    obtain⟨rfl,_⟩:=zEp hb
    exact this
end Go.Proofs.YticdfkoncnnmmaaGreatDoor
