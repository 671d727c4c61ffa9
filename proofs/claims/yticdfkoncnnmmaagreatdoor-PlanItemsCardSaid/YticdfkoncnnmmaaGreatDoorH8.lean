import Derived.Test.YticdfkoncnnmmaaGreatDoorH7
import Derived.Test.YticdfkoncnnmmaaGreatDoorH6
set_option linter.unusedSimpArgs false
set_option linter.unusedVariables false
set_option maxRecDepth 100000
namespace Go.Proofs.YticdfkoncnnmmaaGreatDoor
open Go.X Go.X.Diff Go.MapKept
theorem zAcR {H:zAd}{a p:List UInt8}:zAg prg zDp [str a,str p] H fun u H'=>u = .bool (decide (p.length<=a.length) && decide (a.take p.length=p))/\H=H':=by
 apply zFX
 unfold zF6
 refine zAk zQV ?_
 rintro _ _ ⟨rfl,rfl⟩
 exact⟨rfl,rfl⟩
theorem zAge {H:zAd}{a b:List UInt8}(ha:a.length<=1048576)(hb:b.length<=1048576):zAg prg zMG [str a,str b] H fun u H'=>u = .bool (zRA a b)/\H=H':=by
 apply zN7
 unfold zOH
 have e:=fun q=>zBX (q:=q) (a:=a) (b:=b)
 have s:(Value.string ⟨#[47]⟩)=str [47]:=rfl
 rw[e,zAa,s]
 unfold zRA zLz
 cases h:decide (a=b)
 rotate_left
 ·simp only[zAF,zAl,Bool.true_eq_false,if_false,zAe,if_true,zAa,Bool.true_or]
  exact⟨by trivial,by trivial⟩
 have h':decide (b=a)=false:=by simpa [eq_comm] using h
 rw[h']
 refine zBM rfl ?_
 rw[zQU (by simp;omega),zAa]
 refine zAk zAcR ?_
 rintro _ _ ⟨rfl,rfl⟩
 rw[zAe,if_neg (by decide),zAa]
 generalize (decide ((b++[47]).length<=a.length) && decide (a.take (b++[47]).length=b++[47]))=x
 cases x
 rotate_left
 ·refine zJe (by decide) ?_
  show Mpu (zAC (.bool true) (.bool true) undef) _
  rw[zAe,if_pos rfl,zAa]
  exact⟨rfl,rfl⟩
 refine zBM rfl ?_
 rw[zQU (by simp;omega),zAa]
 refine zAk zAcR ?_
 rintro _ _ ⟨rfl,rfl⟩
 rw[zAe,if_neg (by decide),zAa]
 exact⟨by simp,rfl⟩
def zPB (of:zP2)(m:Man)(f:zE8)(k:List UInt8):Bool:=!decide ((zXS of k).getD []=m.name) && zRA f.name k
theorem zXx {of:zP2}{m:Man}{ks:List (List UInt8)}(hnd:(of.map (·.1)).Nodup)(hp:ks.Perm (of.map (·.1))):zMe of m=m.files.any fun f=>ks.any (zPB of m f):=by
 unfold zMe
 congr 1
 funext f
 have e1:ks.any (zPB of m f)=(of.map (·.1)).any (zPB of m f):=by
  rw[Bool.eq_iff_iff,List.any_eq_true,List.any_eq_true]
  exact⟨fun⟨x,h,g⟩=>⟨x,hp.mem_iff.1 h,g⟩,fun⟨x,h,g⟩=>⟨x,hp.mem_iff.2 h,g⟩⟩
 rw[e1,List.any_map,Bool.eq_iff_iff,List.any_eq_true,List.any_eq_true]
 have e:∀ t ∈ of,(zPB of m f ∘ fun x=>x.1) t=(!decide (t.2=m.name) && zRA f.name t.1):=fun t ht=>by
  show zPB of m f t.1=_
  unfold zPB
  rw[zAcN hnd (v:=t.2) ht];rfl
 exact⟨fun⟨x,h,g⟩=>⟨x,h,by rw[e x h];exact g⟩,fun⟨x,h,g⟩=>⟨x,h,by rw[<- e x h];exact g⟩⟩
theorem zWD {α:Type}{l:List α}{i:Nat}{x:α}{p:α->Bool}(h:l[i]? = some x):(l.take (i+1)).any p=((l.take i).any p || p x):=by
 rw[List.take_add_one,h,List.any_append];simp
structure zAbO (P:Nat->Prop)(of:zP2)(m:Man)(vd vc vf:Value)(r1 o qo qp r2:Nat)(h:zAd):Prop where
 a1:At h r1 [Ptr o 0]
 ao:At h o [.map (some qo),.map (some qp)]
 mo:zWB h qo of
 a2:At h r2 (zEN m vd vc vf)
 mv:zJJ P h m vd vc vf
 lt:∀ b,P b->b<h.size
def zAgP (P:Nat->Prop)(r1 o qo r2 b:Nat):Prop:=b=r1\/b=o\/b=qo\/b=r2\/P b
theorem zAbO.keep {P S:Nat->Prop}{of:zP2}{m:Man}{vd vc vf:Value}{r1 o qo qp r2:Nat}{h h':zAd}(p:zAbO P of m vd vc vf r1 o qo qp r2 h)(k:Keep S h h')(hs:∀ b,zAgP P r1 o qo r2 b->¬ S b):zAbO P of m vd vc vf r1 o qo qp r2 h' :=
 ⟨p.a1.keep k (hs _ (.inl rfl)),p.ao.keep k (hs _ (.inr (.inl rfl))),p.mo.keep k (hs _ (.inr (.inr (.inl rfl)))),p.a2.keep k (hs _ (.inr (.inr (.inr (.inl rfl))))),p.mv.keep k fun b hb=>hs _ (.inr (.inr (.inr (.inr hb)))),fun b hb=>Nat.lt_of_lt_of_le (p.lt b hb) k.1⟩
theorem zAbO.sr {P:Nat->Prop}{of:zP2}{m:Man}{vd vc vf:Value}{r1 o qo qp r2:Nat}{h:zAd}(p:zAbO P of m vd vc vf r1 o qo qp r2 h):∀ b,zAgP P r1 o qo r2 b->b<h.size:=fun b hb=>by
 rcases hb with rfl | rfl | rfl | rfl | hb
 ·exact p.a1.lt
 ·exact p.ao.lt
 ·obtain⟨_,_,h,_⟩:=p.mo;exact lt_of h
 ·exact p.a2.lt
 ·exact p.lt b hb
theorem zAew:zJT prg zJy=some ([(0,1),(1,1),(2,1)],[str [],str [],str []].toArray):=by kernel_rfl
theorem zXy {P:Nat->Prop}{of:zP2}{m:Man}{vd vc vf:Value}{r1 o qo qp r2:Nat}(hnd:(of.map (·.1)).Nodup)(hol:of.length<=900000)(hl:∀ t ∈ of,t.1.length<=64)(hml:∀ f ∈ m.files,f.name.length<=64)(hfl:m.files.length<=64) :
  zAev prg (.func (.func zBy) #[] #[Ptr r1 0,Ptr r2 0]) (fun _ x=>zMe of m=true/\∃ c,x=[c]) (fun tr=>tr=[]->zMe of m=false) (fun _=>False) (zAgP P r1 o qo r2) (zAbO P of m vd vc vf r1 o qo qp r2):=by
 rintro yv h0 J E hst hJ hbody sJ sE
 refine⟨zBy,#[],#[Ptr r1 0,Ptr r2 0],rfl,by kernel_rfl,?_⟩
 show zAg prg zBy [yv,Ptr r1 0,Ptr r2 0] h0 _
 apply zIt
 unfold zGu
 have nck1:∀ b,nck (Ptr b 0)=some (Ptr b 0):=fun _=>rfl
 simp only[zAx,Nat.zero_add,Nat.add_zero,zAa]
 rw[hst.a1.ld (i:=0) rfl,zAa,nck1,zAa]
 simp only[zAx,Nat.zero_add,Nat.add_zero,zAa]
 rw[hst.ao.ld (i:=0) rfl,zAa]
 refine zUq hnd hol hst.mo fun u ks h2 hp hb k2=>?_
 have g2:=k2.1
 have hst2:=hst.keep k2 fun _ _=>id
 have hsr:=hst.sr
 have w:=hst.mv.wf
 have hcl:=zXx (m:=m) hnd hp
 have hkl:ks.length<=900000:=by rw[hp.length_eq,List.length_map];exact hol
 have hks:∀ k ∈ ks,k.length<=64:=fun k hk=>by
  obtain⟨t,ht,rfl⟩:=List.mem_map.1 (hp.mem_iff.1 hk)
  exact hl t ht
 have hfu:=hb.sl
 generalize hF:(fun b=>h0.size<=b/\b<h2.size)=F at hb hfu
 have hFa:∀ b,F b↔h0.size<=b/\b<h2.size:=fun b=>by rw[<- hF]
 have hulen:=hfu.len
 rw[zLS]at hulen
 have hvf:=hst2.mv.f.len
 rw[List.length_map]at hvf
 rw[(zE9 hst2.a2 w).2.2,zAa,hvf,zAa]
 let Io:Nat->zAd->Prop:=fun i h=>zAbO P of m vd vc vf r1 o qo qp r2 h/\SlE 1 F h u (zOh ks)/\h2.size<=h.size/\∃ tr,J tr F h/\(tr=[]->((m.files.take i).any fun f=>ks.any (zPB of m f))=false)
 refine zHU (fun v h=>∃ i:Nat,i<=m.files.length/\v = .int .i64 (i:Nat)/\Io i h) (fun v _=>match v with | .int _ t=>m.files.length - t.toNat | _=>0) ⟨0,Nat.zero_le _,rfl,hst2,hfu,Nat.le_refl _,[],sJ _ _ _ _ _ hJ (k2.mono fun _ _ h=>h.elim) (fun b hb => .inr ((hFa b).1 hb)),fun _=>rfl⟩ ?_
 rintro _ h4 ⟨i,hi,rfl,hs4,hu4,hz4,tr,hJ4,htr⟩ k3 hk3
 rw[zMs,zAa,zAc]
 by_cases hlt:i<m.files.length
 rotate_left
 ·rw[if_neg (by simpa using hlt)]
  obtain rfl:i=m.files.length:=by omega
  rw[List.take_of_length_le (Nat.le_refl _)]at htr
  exact .inl ⟨tr,F,fun e=>by rw[hcl];exact htr e,hJ4⟩
 rw[if_pos (by simpa using hlt)]
 have hg:m.files[i]? = some m.files[i]:=List.getElem?_eq_getElem hlt
 have hfm:=List.getElem_mem hlt
 generalize m.files[i]=f at *
 have hwf:=w.files f hfm
 have hfn:=hml f hfm
 refine zL2 (fun _ h=>Io (i+1) h) (fun k5 hk5=>?_) ?_
 rotate_left
 ·rintro _ h6 hI6
  rw[zAG (by omega),zAa]
  exact hk3 _ _ ⟨i+1,by omega,rfl,hI6⟩ (by show m.files.length - (i+1)<m.files.length - i;omega)
 obtain⟨b,p,hix,hpt,_⟩:=hs4.mv.f.at (i:=i) (x:=zB9 f) (by rw[List.getElem?_map,hg];rfl)
 rw[hix .i64,zAa,hpt.agg (zBG hwf),zAa]
 simp only[zVk,zAs]
 generalize hH7:h4.push (.cells (zB9 ⟨[],List.replicate 32 0,0⟩).toArray zAu (0,0))=h7
 have k7:Keep (fun _=>False) h4 h7:=by rw[<- hH7];exact Keep.push
 have a7:At h7 h4.size (zB9 ⟨[],List.replicate 32 0,0⟩):=by rw[<- hH7];exact At.push
 obtain⟨h8,st8,a8,k8⟩:=a7.st (n:=34) (ds:=zB9 f) (zBG zAbE) (zBG hwf) zKd
 have k48:Keep (fun _=>False) h4 h8:=k7.fresh k8 fun b hb=>by omega
 have g7:=a7.lt
 have g8:=k48.1
 have g78:=k8.1
 rw[st8,zAm,hulen,zAa]
 let Z:Nat->Prop:=fun b=>F b\/b=h4.size
 have hZs:∀ b,Z b->h0.size<=b/\b<h8.size:=fun b hb=>by
  rcases hb with hb | rfl
  ·have:=(hFa b).1 hb;omega
  ·omega
 let Ii:Nat->zAd->Prop:=fun j h=>zAbO P of m vd vc vf r1 o qo qp r2 h/\SlE 1 F h u (zOh ks)/\At h h4.size (zB9 f)/\h8.size<=h.size/\∃ tr,J tr Z h/\(tr=[]->((m.files.take i).any fun f=>ks.any (zPB of m f))=false/\((ks.take j).any (zPB of m f))=false)
 refine zHU (fun v h=>∃ j:Nat,j<=ks.length/\v = .int .i64 (j:Nat)/\Ii j h) (fun v _=>match v with | .int _ t=>ks.length - t.toNat | _=>0) ⟨0,Nat.zero_le _,rfl,hs4.keep k48 fun _ _=>id,hu4.keep k48 fun _ _=>id,a8,Nat.le_refl _,tr,sJ _ _ _ _ _ hJ4 (k48.mono fun _ _ h=>h.elim) (fun b hb=>hb.elim .inl fun e => .inr (by omega)),fun e=>⟨htr e,rfl⟩⟩ ?_
 rintro _ h10 ⟨j,hj,rfl,hs10,hu10,a10,hz10,tr2,hJ10,htr2⟩ k9 hk9
 rw[zMs,zAa,zAc]
 by_cases hltj:j<ks.length
 rotate_left
 ·rw[if_neg (by simpa using hltj)]
  obtain rfl:j=ks.length:=by omega
  rw[List.take_of_length_le (Nat.le_refl _)]at htr2
  exact hk5 _ _ ⟨hs10,hu10,by omega,tr2,sJ _ _ _ _ _ hJ10 (Keep.refl.mono (S:=fun _=>False) fun _ _ h=>h.elim) (fun b hb => .inl (.inl hb)),fun e=>by
   rw[zWD hg,(htr2 e).1,(htr2 e).2];rfl⟩
 rw[if_pos (by simpa using hltj)]
 have hgj:ks[j]? = some ks[j]:=List.getElem?_eq_getElem hltj
 have hkm:=List.getElem_mem hltj
 generalize ks[j]=t at *
 have htl:=hks t hkm
 refine zL2 (fun _ h=>Ii (j+1) h) (fun k11 hk11=>?_) ?_
 rotate_left
 ·rintro _ h12 hI12
  rw[zAG (by omega),zAa]
  exact hk9 _ _ ⟨j+1,by omega,rfl,hI12⟩ (by show ks.length - (j+1)<ks.length - j;omega)
 obtain⟨bt,pt,hixt,hptt,_⟩:=hu10.at (i:=j) (x:=[str t]) (by simpa [zFB] using hgj)
 rw[hixt .i64,zAa,hptt.cell0 rfl,zAa,hs10.a1.ld (i:=0) rfl,zAa,nck1,zAa]
 simp only[zAx,Nat.zero_add,Nat.add_zero,zAa]
 have dnm:ld1 h10 (Ptr r2 0)=some (str m.name):=zBE hs10.a2
 have dfn:ld1 h10 (Ptr h4.size 0)=some (str f.name):=a10.ld rfl
 rw[hs10.ao.ld (i:=0) rfl,zAa,dnm,zAa]
 refine zUp hs10.mo hnd ?_
 show Mre [(ld1 h10 (Ptr r2 0),str m.name)] _
 rw[dnm,zAw,zAr]
 show Mpu (zAh .no .eql (str ((zXS of t).getD [])) (str m.name)) _
 rw[zBX,zAa]
 have hno:zPB of m f t=false->Ii (j+1) h10:=fun e=>⟨hs10,hu10,a10,hz10,tr2,hJ10,fun e1=>⟨(htr2 e1).1,by rw[zWD hgj,(htr2 e1).2,e];rfl⟩⟩
 cases hm:decide ((zXS of t).getD []=m.name)
 rotate_left
 ·refine zJe (by decide) ?_
  show Mpu (zAC (.bool true) (.bool true) undef) _
  rw[zAe,if_pos rfl,zAa,zAc,if_pos rfl]
  exact hk11 _ _ (hno (by unfold zPB;rw[hm];rfl))
 refine zBM rfl ?_
 rw[dfn,zAa]
 refine zAk (zAge (by omega) (by omega)) ?_
 rintro _ _ ⟨rfl,rfl⟩
 rw[zAq,zAa]
 show Mpu (zAC (.bool false) (.bool true) (.bool (!zRA f.name t))) _
 rw[zAe,if_neg (by decide),zAa,zAc]
 cases hmt:zRA f.name t
 ·rw[if_pos (by rfl)]
  exact hk11 _ _ (hno (by unfold zPB;rw[hmt,Bool.and_false]))
 rw[if_neg (by decide)]
 simp only[dfn,dnm,zAa]
 rw[hs10.a1.ld (i:=0) rfl,zAa,nck1,zAa]
 simp only[zAx,Nat.zero_add,Nat.add_zero,zAa]
 rw[hs10.ao.ld (i:=0) rfl,zAa]
 refine zUp hs10.mo hnd ?_
 show Mre [(ld1 h10 (Ptr r2 0),str m.name),(ld1 h10 (Ptr h4.size 0),str f.name)] _
 rw[dnm,dfn,zAw,zAw,zAr]
 show Mpu (zA4 prg zJy [(0,str f.name),(1,str m.name),(2,str ((zXS of t).getD []))]) _
 have hbd:zA4 prg zJy [(0,str f.name),(1,str m.name),(2,str ((zXS of t).getD []))]=some (.agg #[str f.name,str m.name,str ((zXS of t).getD [])]):=by rw[zGf zAew];rfl
 rw[hbd,zAa]
 have hcT:zMe of m=true:=by
  rw[hcl]
  exact List.any_eq_true.2 ⟨f,hfm,List.any_eq_true.2 ⟨t,hkm,by unfold zPB;rw[hm,hmt];rfl⟩⟩
 refine(hbody _ _ _ h10 ⟨hcT,_,rfl⟩ hJ10).mono ?_
 rintro v h18 ⟨hsz,hS,hv⟩
 have k18:Keep (fun b=>¬ (zAgP P r1 o qo r2 b\/Z b)) h10 h18:=⟨hsz,fun b hb hn=>hS b (Classical.not_not.1 hn) hb⟩
 rcases hv with ⟨rfl,hJ18⟩ | ⟨rfl,hE⟩
 ·rw[zAq,zAa,zAc,if_neg (by decide)]
  refine hk11 _ _ ⟨hs10.keep k18 fun b hb h=>h (.inl hb),hu10.keep k18 fun b hb h=>h (.inr (.inl hb)),a10.keep k18 fun h=>h (.inr (.inr rfl)),by omega,_,hJ18,fun e=>?_⟩
  simp at e
 ·rw[zAq,zAa,zAc,if_pos (by rfl)]
  exact .inr hE
theorem zZO {l:List (List UInt8)}(h:zOP l=true):l.Pairwise fun a b=>less a b=true:=by
 obtain⟨_,tr,_⟩:=zS4
 rw[List.pairwise_iff_getElem]
 intro i j hi hj hij
 induction j with
 | zero=>omega
 | succ j ih =>
  have hs:less (l[j]'(by omega)) l[j+1]=true:=by
   have h1:=List.all_eq_true.1 h (j+1) (by simpa using hj)
   unfold zMd at h1
   have e1:l.getD j []=l[j]'(by omega):=by simp[List.getD,show j<l.length by omega]
   have e2:l.getD (j+1) []=l[j+1]:=by simp[List.getD,hj]
   rw[decide_eq_false (by omega),Bool.false_or,Nat.add_sub_cancel,e1,e2]at h1
   exact h1
  by_cases e:i=j
  ·subst e;exact hs
  ·exact tr _ _ _ (ih (by omega) (by omega)) hs
theorem zAex {l:List (List UInt8)}(h:zOP l=true):l.Nodup:=by
 obtain⟨ir,_,_⟩:=zS4
 exact List.nodup_iff_pairwise_ne.2 ((zZO h).imp fun {a b} h e=>by subst e;rw[ir]at h;cases h)
theorem zKg {m:Man}(h:zEt m=true):m.files.length<=64/\(m.files.map (·.name)).Nodup/\∀ f ∈ m.files,f.name.length<=64:=by
 unfold zEt zM5 at h
 simp only[Bool.and_eq_true,decide_eq_true_eq]at h
 obtain⟨_,⟨h1,h2⟩,h3⟩:=h
 refine⟨h1,zAex h2,fun f hf=>?_⟩
 obtain⟨i,hi,rfl⟩:=List.getElem_of_mem hf
 have:=List.all_eq_true.1 h3 i (List.mem_range.2 hi)
 unfold zHL at this
 rw[zQ5 (List.getElem?_eq_getElem hi)]at this
 simp only[Bool.and_eq_true]at this
 exact zAcH this.1.1.1.1
structure zUr (ps:List (List UInt8))(of:zP2):Prop extends OwnI ps of where
 len:∀ t ∈ of,t.1.length<=64
theorem zUr.nil:zUr [] []:=⟨⟨List.nodup_nil,fun t h=>by cases h⟩,fun t h=>by cases h⟩
theorem zUr.next {ps:List (List UInt8)}{of:zP2}{m:Man}(hI:zUr ps of)(h:zFk ps of m=0):zUr (ps++[m.name]) (zAaq of m):=by
 obtain⟨h1,h2,h3⟩:=zWC h
 obtain⟨f1,f2,f3⟩:=zKg h1
 have hn:=zZJ hI.toOwnI h2 h3
 refine⟨⟨?_,fun t ht=>?_⟩,fun t ht=>?_⟩
 ·unfold zAaq
  rw[List.map_append,List.map_map,List.nodup_append]
  refine⟨hI.nd,f2,fun a ha b hb e=>?_⟩
  obtain⟨f,hf,rfl⟩:=List.mem_map.1 hb
  exact hn f hf (by rw[show f.name=a from e.symm];exact ha)
 ·rcases List.mem_append.1 ht with ht | ht
  ·exact List.mem_append_left _ (hI.mem t ht)
  ·obtain⟨f,hf,rfl⟩:=List.mem_map.1 ht
   simp
 ·rcases List.mem_append.1 ht with ht | ht
  ·exact hI.len t ht
  ·obtain⟨f,hf,rfl⟩:=List.mem_map.1 ht
   exact f3 f hf
theorem zAgf:zAgL prg zDj .string (.bool false):=⟨zAz,zTK,by kernel_rfl,by kernel_rfl,fun w=>by rfl⟩
def zAar (h:zAd)(q:Nat)(l:List (List UInt8)):Prop:=zLX h q (l.map fun e=>(str e,.bool true))
theorem zAar.keep {H H':zAd}{q:Nat}{l:List (List UInt8)}{S:Nat->Prop}(h:zAar H q l)(k:Keep S H H')(hs:¬ S q):zAar H' q l:=zLX.keep h k hs
theorem zWE {l:List (List UInt8)}:∀ x ∈ l.map (fun e=>(str e,Value.bool true)),IsKey .string x.1:=fun x hx=>by
 obtain⟨e,_,rfl⟩:=List.mem_map.1 hx
 exact trivial
theorem zAey {H:zAd}{q:Nat}{l:List (List UInt8)}{n:List UInt8}{k:Value->zAd->Prop}(h:zAar H q l)(hk:k (.bool (decide (n ∈ l))) H):zNt prg (Instr.lookup zDj (.map (some q)) (str n) false) H k:=by
 refine zWu zAgf h zWE trivial (fun v hv=>?_) fun hno=>?_
 ·obtain⟨e,he,hev⟩:=List.mem_map.1 hv
  injection hev with h1 h2
  obtain rfl:=zPA h1
  rw[decide_eq_true he]at hk
  rw[<- h2];exact hk
 ·rw[decide_eq_false fun hm=>hno _ (List.mem_map.2 ⟨n,hm,rfl⟩) rfl]at hk
  exact hk
theorem zAez {H:zAd}{q:Nat}{l:List (List UInt8)}{n:List UInt8}{k:Value->zAd->Prop}(h:zAar H q l)(hno:n ∉ l)(hk:∀ H',zAar H' q (l++[n])->Keep (· = q) H H'->k undef H'):Msu prg (Instr.mapUpdate zDj (.map (some q)) (str n) (.bool true)) H k:=by
 refine zWv zAgf h zWE trivial (fun j w H' hj hm kk=>?_) fun H' _ hm kk=>?_
 ·obtain⟨e,he,hev⟩:=List.mem_map.1 (List.mem_of_getElem? hj)
  injection hev with h1 h2
  exact absurd (zPA h1 ▸ he) hno
 ·refine hk H' ?_ kk
  show zLX H' q _
  rw[List.map_append];exact hm
structure zM7 (ps:List (List UInt8))(of:zP2)(o qo qp:Nat)(h:zAd):Prop where
 ao:At h o [.map (some qo),.map (some qp)]
 mo:zWB h qo of
 mp:zAar h qp ps
 ne:qo≠qp
theorem zWB.lt {h:zAd}{q:Nat}{l:zP2}(m:zWB h q l):q<h.size:=by obtain⟨_,_,h,_⟩:=m;exact lt_of h
theorem zAar.lt {h:zAd}{q:Nat}{l:List (List UInt8)}(m:zAar h q l):q<h.size:=by obtain⟨_,_,h,_⟩:=m;exact lt_of h
theorem zM7.keep {ps:List (List UInt8)}{of:zP2}{o qo qp:Nat}{h h':zAd}{S:Nat->Prop}(p:zM7 ps of o qo qp h)(k:Keep S h h')(hs:∀ b,b=o\/b=qo\/b=qp->¬ S b):zM7 ps of o qo qp h' :=
 ⟨p.ao.keep k (hs _ (.inl rfl)),p.mo.keep k (hs _ (.inr (.inl rfl))),p.mp.keep k (hs _ (.inr (.inr rfl))),p.ne⟩
theorem zM7.nes {ps:List (List UInt8)}{of:zP2}{o qo qp:Nat}{h:zAd}(p:zM7 ps of o qo qp h):o≠qo/\o≠qp:=by
 obtain⟨T,a⟩:=p.ao
 obtain⟨_,_,h1,_⟩:=p.mo
 obtain⟨_,_,h2,_⟩:=p.mp
 refine⟨fun e=>?_,fun e=>?_⟩
 ·subst e;rw[a]at h1;cases h1
 ·subst e;rw[a]at h2;cases h2
theorem zAhA {ps:List (List UInt8)}{of:zP2}{o qo qp:Nat}{H:zAd}{n:List UInt8}(p:zM7 ps of o qo qp H):zAg prg zHo [Ptr o 0,str n] H fun u H'=>u = .bool (decide (n ∈ ps))/\H=H':=by
 apply zKZ
 unfold zJ9
 have nck1:∀ b,nck (Ptr b 0)=some (Ptr b 0):=fun _=>rfl
 rw[nck1,zAa,zAx,zAa,Nat.zero_add,p.ao.ld (i:=1) rfl,zAa]
 exact zAey p.mp ⟨rfl,rfl⟩
theorem zAbP:zAB prg zFy=some [Value.int .i64 0].toArray:=by kernel_rfl
theorem zAbQ {P:Nat->Prop}{ps:List (List UInt8)}{of:zP2}{o qo qp:Nat}{H:zAd}{m:Man}{vd vc vf:Value}(p:zM7 ps of o qo qp H)(hI:zUr ps of)(hol:of.length<=900000)(hv:zJJ P H m vd vc vf)(hP:∀ b,P b->b<H.size/\b≠qo/\b≠qp)
  (hd:m.deps.length<=1099511627776) (hc:m.conf.length<=1099511627776) (hO:zNR H) :
  zAg prg zHl [Ptr o 0,.agg (zEN m vd vc vf).toArray] H fun u H'=>u = .int .i64 (zFk ps of m)/\(zFk ps of m=0->zM7 (ps++[m.name]) (zAaq of m) o qo qp H')/\Keep (fun b=>b=qo\/b=qp) H H':=by
 apply zKY
 unfold zJ6
 simp only[zAN,zAs,zAbP]
 generalize hH1:H.push (.cells (zEN m vd vc vf).toArray zAb (0,0))=H1
 have k1:Keep (fun _=>False) H H1:=by rw[<- hH1];exact Keep.push
 have a1:At H1 H.size (zEN m vd vc vf):=by rw[<- hH1];exact At.push
 have s1:H1.size=H.size+1:=by rw[<- hH1];simp
 generalize hH2:H1.push (.cells [Value.int .i64 0].toArray zFy (0,0))=H2
 have k2:Keep (fun _=>False) H1 H2:=by rw[<- hH2];exact Keep.push
 have a2:At H2 H1.size [.int .i64 0]:=by rw[<- hH2];exact At.push
 have s2:H2.size=H1.size+1:=by rw[<- hH2];simp
 have k02:=k1.trans k2
 have a1':=a1.keep k2 id
 have w:=hv.wf
 have hp0:=p.nes
 have l0:=p.ao.lt
 have lo:=p.mo.lt
 have lp:=p.mp.lt
 have fin:∀ (n:Int) (h:zAd),At h H1.size [.int .i64 0]\/At h H1.size [.int .i64 41]->Keep (fun b=>b=qo\/b=qp) H h->n=zFk ps of m->(zFk ps of m=0->zM7 (ps++[m.name]) (zAaq of m) o qo qp h) ->
   Mwr (st1 h (Ptr H1.size 0) (.int .i64 n)) fun h8=>Mcl H.size h8 fun h9=>Mpu (ld1 h9 (Ptr H1.size 0)) fun r10=>r10 = .int .i64 (zFk ps of m)/\(zFk ps of m=0->zM7 (ps++[m.name]) (zAaq of m) o qo qp h9)/\Keep (fun b=>b=qo\/b=qp) H h9:=fun n h a k e hw=>by
  obtain⟨h4,st4,a4,k4⟩:∃ h4,st1 h (Ptr H1.size 0) (.int .i64 n)=some h4/\At h4 H1.size [.int .i64 n]/\Keep (· = H1.size) h h4:=by
   rcases a with a | a
   ·obtain⟨h4,st4,a4,k4⟩:=a.st1 (i:=0) (v := .int .i64 n) (by simp) rfl
    exact⟨h4,st4,a4,k4⟩
   ·obtain⟨h4,st4,a4,k4⟩:=a.st1 (i:=0) (v := .int .i64 n) (by simp) rfl
    exact⟨h4,st4,a4,k4⟩
  rw[st4,zAm]
  refine zSP fun h5 hcl=>?_
  rw[(a4.closed hcl).ld (i:=0) rfl,zAa]
  have kc:Keep (fun b=>b=qo\/b=qp) H h5:=⟨by rw[hcl.1];have:=k.1;have:=k4.1;omega,fun i hi hn=>by rw[hcl.2.1 i hi,k4.2 i (by have:=k.1;omega) (by omega),k.2 i hi hn]⟩
  refine⟨by rw[e],fun e0=>?_,kc⟩
  have q:=(hw e0).keep k4 fun b hb h=>by rcases hb with hb | hb | hb <;> omega
  obtain⟨q1,q2,q3,q4⟩:=q
  refine⟨q1.closed hcl,?_,?_,q4⟩
  ·obtain⟨ar,c,h1,h2⟩:=q2
   exact⟨ar,c,hcl.2.2 _ _ h1 (fun ds e=>by cases e),h2⟩
  ·obtain⟨ar,c,h1,h2⟩:=q3
   exact⟨ar,c,hcl.2.2 _ _ h1 (fun ds e=>by cases e),h2⟩
 rw[zQZ a1' w,zAa]
 refine zAk (zQd (hv.keep k02 fun _ _=>id) hd hc (hO.keep k02 fun _ h=>h.elim)) ?_
 rintro _ h3 ⟨rfl,k3⟩
 have k03:=k02.trans k3
 have a13:=a1'.keep k3 id
 have a23:=a2.keep k3 id
 have g3:=k3.1
 rw[zAq,zAa,zAc]
 cases hok:zEt m
 ·rw[if_pos (by rfl)]
  have e:zFk ps of m=10:=by unfold zFk;rw[hok];rfl
  exact fin 10 h3 (.inl a23) (k03.mono fun _ _ h=>h.elim) e.symm fun h=>by rw[e]at h;cases h
 rw[if_neg (by decide),zAx,zAa,Nat.zero_add,zBE a13,zAa]
 refine zAk (zAhA (p.keep k03 fun _ _=>id)) ?_
 rintro _ _ ⟨rfl,rfl⟩
 rw[zAc]
 by_cases hin:m.name ∈ ps
 ·rw[if_pos (by simpa using hin)]
  have e:zFk ps of m=44:=by unfold zFk;rw[hok,if_pos hin];rfl
  exact fin 44 h3 (.inl a23) (k03.mono fun _ _ h=>h.elim) e.symm fun h=>by rw[e]at h;cases h
 rw[if_neg (by simpa using hin),zQZ a13 w,zAa]
 obtain⟨f1,f2,f3⟩:=zKg hok
 refine zAk (R:=fun u H'=>u = .func (.func zBy) #[] #[Ptr h3.size 0,Ptr (h3.size+1) 0]/\At H' h3.size [Ptr o 0]/\At H' (h3.size+1) (zEN m vd vc vf)/\H'.size=h3.size+2/\Keep (fun _=>False) h3 H') ?_ ?_
 ·apply zJb
  unfold zHF
  have ec:Value.cells (Ptr o 0)=[Ptr o 0].toArray:=rfl
  simp only[ec,zAN,zAs]
  have e1:(h3.push (.cells [Ptr o 0].toArray zGA (0,0))).size=h3.size+1:=by simp
  have e2:At ((h3.push (.cells [Ptr o 0].toArray zGA (0,0))).push (.cells (zEN m vd vc vf).toArray zAb (0,0))) (h3.push (.cells [Ptr o 0].toArray zGA (0,0))).size (zEN m vd vc vf):=At.push
  rw[e1]at e2
  exact⟨by rw[e1],At.push.keep (S:=fun _=>False) Keep.push id,e2,by simp,Keep.push.trans Keep.push⟩
 rintro _ h11 ⟨rfl,ar1,ar2,s11,k11⟩
 have k011:=k03.trans k11
 have g03:=k03.1
 have a111:=a13.keep k11 id
 have a211:=a23.keep k11 id
 let St:=zAbO P of m vd vc vf h3.size o qo qp (h3.size+1)
 have st11:St h11:=⟨ar1,p.ao.keep k011 id,p.mo.keep k011 id,ar2,hv.keep k011 fun _ _=>id,fun b hb=>by have:=(hP b hb).1;omega⟩
 have p11:zM7 ps of o qo qp h11:=p.keep k011 fun _ _=>id
 have sf:∀ {S:Nat->Prop} {h h':zAd},Keep S h h'->(∀ b,S b->h11.size<=b)->∀ b,b<h11.size->¬ S b:=fun _ hs b hb h=>by have:=hs b h;omega
 refine zZK (n0:=H.size) (zXy (P:=P) (of:=of) (m:=m) (vd:=vd) (vc:=vc) (vf:=vf) (qp:=qp) hI.nd hol hI.len f3 f1) (fun x x'=>st11.keep (Keep.push.trans Keep.push:Keep (fun _=>False) h11 _) fun _ _=>id) (by omega)
  (fun tr Z h=>tr=[]/\Keep (fun _=>False) h11 h/\∀ b,Z b->h11.size<=b) (fun c h=>c = .ret/\zMe of m=true/\At h H1.size [.int .i64 41]/\Keep (fun _=>False) H h) ⟨rfl,Keep.refl,fun _ h=>h.elim⟩
  (fun tr Z Z' h h' ⟨e,kh,hz⟩ hs k hz'=>⟨e,kh.fresh k fun b hb=>?_,fun b hb=>(hz' b hb).elim (hz b) fun h=>by omega⟩)
  (fun c h h' ⟨e,e1,a,kh⟩ hs k=>⟨e,e1,a.keep k fun hb=>?_,kh.fresh k fun b hb=>?_⟩) (fun _ h=>h.elim) (fun b hb=>st11.sr b hb) ?_ ?_ ?_
 ·rcases hb with hb | hb | rfl | rfl
  ·exact hb.elim
  ·exact hz b hb
  ·omega
  ·omega
 ·rcases hb with hb | hb | hb
  ·exact hb
  ·omega
  ·omega
 ·rcases hb with hb | rfl | rfl
  ·exact hb.elim
  ·omega
  ·omega
 ·rintro tr x Z h r hsz ⟨hcl,c,rfl⟩ hZ ⟨rfl,kh,_⟩ hl hrd K hN hE
  refine⟨rfl,r,hl,hrd,?_⟩
  generalize hhb:h.setIfInBounds (h11.size+1) (.loop { r with state := .busy })=hb at *
  have kb:Keep (· = h11.size+1) h hb:=by rw[<- hhb];exact Keep.set rfl
  have k11b:Keep (fun _=>False) h11 hb:=kh.fresh kb fun b hb=>by omega
  obtain⟨h18,st18,a18,k18⟩:=(a211.keep k11b id).st1 (i:=0) (v := .int .i64 41) (by simp) rfl
  rw[st18,zAm]
  refine hE _ _ (k18.mono fun b _ e hh=>?_) ⟨rfl,hcl,a18,(k011.trans k11b).fresh k18 fun b hb=>by omega⟩
  subst e
  rcases hh with hh | hh | hh | hh
  ·rcases hh with hh | hh | hh | hh | hh
   ·omega
   ·omega
   ·omega
   ·omega
   ·have:=(hP _ hh).1;omega
  ·have:=hZ _ hh;omega
  ·omega
  ·omega
 ·rintro tr Z h hsz hD ⟨rfl,kh,_⟩
  refine .inl ⟨rfl,?_⟩
  have hcf:zMe of m=false:=hD rfl
  have e:zFk ps of m=0:=by unfold zFk;rw[hok,if_neg hin,hcf];rfl
  have hnew:=zZJ hI.toOwnI hin hcf
  have p16:=p11.keep kh fun _ _=>id
  have a116:=a111.keep kh id
  have k016:=k011.trans kh
  have g16:=k016.1
  have nck1:∀ b,nck (Ptr b 0)=some (Ptr b 0):=fun _=>rfl
  simp only[nck1,zAx,Nat.zero_add,Nat.add_zero,zAa]
  rw[p16.ao.ld (i:=1) rfl,zAa,zBE a116,zAa]
  refine zAez p16.mp hin fun h19 mp19 k19=>?_
  have p19:zM7 (ps++[m.name]) of o qo qp h19:=⟨p16.ao.keep k19 hp0.2,p16.mo.keep k19 p.ne,mp19,p.ne⟩
  have a119:=a116.keep k19 (by omega)
  have a219:=(a211.keep kh id).keep k19 (by omega)
  have hv19:zJJ P h19 m vd vc vf:=(hv.keep k016 fun _ _=>id).keep k19 fun b hb e=>(hP b hb).2.2 e
  have k019:Keep (fun b=>b=qo\/b=qp) H h19:=(k016.mono fun _ _ h=>h.elim).trans (k19.mono fun _ _ h => .inr h)
  have g19:=k19.1
  refine zL2 (fun _ h=>zM7 (ps++[m.name]) (zAaq of m) o qo qp h/\At h H1.size [.int .i64 0]/\Keep (fun b=>b=qo\/b=qp) H h) (fun k20 hk20=>?_) ?_
  rotate_left
  ·rintro _ h21 ⟨q1,q2,q3⟩
   exact fin 0 h21 (.inl q2) q3 e.symm fun _=>q1
  have hlf:=hv19.f.len
  rw[List.length_map]at hlf
  rw[(zE9 a119 w).2.2,zAa,hlf,zAa]
  let ofi:Nat->zP2:=fun i=>of++(m.files.take i).map fun f=>(f.name,m.name)
  refine zHU (fun v h=>∃ i:Nat,i<=m.files.length/\v = .int .i64 (i:Nat)/\zM7 (ps++[m.name]) (ofi i) o qo qp h/\Keep (· = qo) h19 h) (fun v _=>match v with | .int _ t=>m.files.length - t.toNat | _=>0) ⟨0,Nat.zero_le _,rfl,by show zM7 _ (of++[]) _ _ _ _;rw[List.append_nil];exact p19,Keep.refl⟩ ?_
  rintro _ h23 ⟨i,hi,rfl,p23,k23⟩ k22 hk22
  have g23:=k23.1
  rw[zMs,zAa,zAc]
  by_cases hlt:i<m.files.length
  rotate_left
  ·rw[if_neg (by simpa using hlt)]
   obtain rfl:i=m.files.length:=by omega
   have e1:ofi m.files.length=zAaq of m:=by show of++_=_;rw[List.take_of_length_le (Nat.le_refl _)];rfl
   rw[e1]at p23
   exact hk20 _ _ ⟨p23,a219.keep k23 (by omega),k019.trans (k23.mono fun _ _ h => .inl h)⟩
  rw[if_pos (by simpa using hlt)]
  have hg:m.files[i]? = some m.files[i]:=List.getElem?_eq_getElem hlt
  have hfm:=List.getElem_mem hlt
  have hfni:∀ t ∈ ofi i,t.1≠m.files[i].name:=fun t ht et=>by
   rcases List.mem_append.1 ht with ht | ht
   ·exact hnew _ hfm (by rw[<- et];exact List.mem_map.2 ⟨t,ht,rfl⟩)
   ·obtain⟨f,hf,rfl⟩:=List.mem_map.1 ht
    obtain⟨j,hj,rfl⟩:=List.getElem_of_mem hf
    rw[List.length_take]at hj
    have hp:=List.pairwise_iff_getElem.1 (List.pairwise_map.1 (List.nodup_iff_pairwise_ne.1 f2)) j i (by omega) hlt (by omega)
    rw[List.getElem_take]at et
    exact hp et
  generalize m.files[i]=f at *
  have hwf:=w.files f hfm
  obtain⟨b,o',hix,hpt,_⟩:=(hv19.keep k23 fun b hb e=>(hP b hb).2.1 e).f.at (i:=i) (x:=zB9 f) (by rw[List.getElem?_map,hg];rfl)
  rw[hix .i64,zAa,hpt.agg (zBG hwf),zAa]
  simp only[zVk,zAs]
  generalize hH24:h23.push (.cells (zB9 ⟨[],List.replicate 32 0,0⟩).toArray zAu (0,0))=h24
  have k24:Keep (fun _=>False) h23 h24:=by rw[<- hH24];exact Keep.push
  have a24:At h24 h23.size (zB9 ⟨[],List.replicate 32 0,0⟩):=by rw[<- hH24];exact At.push
  obtain⟨h25,st25,a25,k25⟩:=a24.st (n:=34) (ds:=zB9 f) (zBG zAbE) (zBG hwf) zKd
  have k2325:Keep (fun _=>False) h23 h25:=k24.fresh k25 fun b hb=>by omega
  have p25:=p23.keep k2325 fun _ _=>id
  have a125:=(a119.keep k23 (by omega)).keep k2325 id
  simp only[zAx,Nat.zero_add,Nat.add_zero,zAa]
  rw[st25,zAm,p25.ao.ld (i:=0) rfl,zAa,a25.ld (i:=0) (v:=str f.name) rfl,zAa,zBE a125,zAa]
  refine zAbM p25.mo hfni fun h26 mo26 k26=>?_
  rw[zAG (by omega),zAa]
  have e2:ofi (i+1)=ofi i++[(f.name,m.name)]:=by
   show of++_=(of++_)++_
   rw[List.take_add_one,hg];simp
  refine hk22 _ _ ⟨i+1,by omega,rfl,⟨p25.ao.keep k26 hp0.1,by rw[e2];exact mo26,p25.mp.keep k26 fun e=>p.ne e.symm,p.ne⟩,(k23.trans (k2325.mono fun _ _ h=>h.elim)).trans k26⟩ (by show m.files.length - (i+1)<m.files.length - i;omega)
 ·rintro c h hsz ⟨rfl,hcl,a,kh⟩
  refine .inr ⟨rfl,?_⟩
  have e:zFk ps of m=41:=by unfold zFk;rw[hok,if_neg hin,hcl];rfl
  refine zSP fun h30 hcl'=>?_
  rw[(a.closed hcl').ld (i:=0) rfl,zAa]
  exact⟨by rw[e],fun h=>absurd (e.symm.trans h) (by decide),(zFI kh hcl').mono fun _ _ h=>h.elim⟩
end Go.Proofs.YticdfkoncnnmmaaGreatDoor
