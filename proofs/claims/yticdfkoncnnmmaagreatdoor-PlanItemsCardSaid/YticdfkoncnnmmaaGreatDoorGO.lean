import Derived.Test.YticdfkoncnnmmaaGreatDoorGN
import Derived.Test.YticdfkoncnnmmaaGreatDoorGJ
set_option linter.unusedSimpArgs false
set_option linter.unusedVariables false
set_option maxRecDepth 100000
namespace Go.Proofs.YticdfkoncnnmmaaGreatDoor
open Go.X Go.X.Diff
structure zAbj (H:zAd):Prop where
 syn:∃ T x t f,H[zBq]? = some (.cells #[.iface T x] t f)
 rng:∃ T x t f,H[zBw]? = some (.cells #[.iface T x] t f)
theorem zAbj.keep {S:Nat->Prop}{H H':zAd}(h:zAbj H)(k:Keep S H H')(hs:∀ b,S b->NG<=b):zAbj H':=by
 obtain⟨⟨T,x,t,f,h1⟩,⟨T',x',t',f',h2⟩⟩:=h
 exact⟨⟨T,x,t,f,k.at h1 fun h=>absurd (hs _ h) (by decide)⟩,⟨T',x',t',f',k.at h2 fun h=>absurd (hs _ h) (by decide)⟩⟩
theorem zH2 {k:Int}:mkI prg zAA (.int .i64 k)=some (.iface zAA (.int .i64 k)):=by
 have h:∃ d,prg.underlying zAA=some (.int d):=⟨.i64,by kernel_rfl⟩
 obtain⟨d,h⟩:=h
 unfold mkI;rw[h]
theorem zWe:zSi prg zAA=true:=by kernel_rfl
abbrev err (k:Int):Value := .iface zAA (.int .i64 k)
theorem zAcu {a b:Int}{lit:Bool}:zAh (.ifc (zSi prg) lit) .eql (err a) (err b)=some (.bool (a == b)):=by
 show((bif Nat.beq zAA zAA then (bif zSi prg zAA then (if IntKind.i64=IntKind.i64 then some (a == b) else none) else none) else some false)).map Value.bool=_
 rw[zWe,Nat.beq_refl];rfl
theorem zAcv {a b:Int}{lit:Bool}:zAh (.ifc (zSi prg) lit) .neq (err a) (err b)=some (.bool (!(a == b))):=by
 show((bif Nat.beq zAA zAA then (bif zSi prg zAA then (if IntKind.i64=IntKind.i64 then some (a == b) else none) else none) else some false)).map (fun b=>Value.bool (!b))=_
 rw[zWe,Nat.beq_refl];rfl
theorem zSN {a:Int}{lit:Bool}:zAh (.ifc (zSi prg) lit) .neq (err a) .nilIface=some (.bool true):=rfl
theorem zVc:zAh (.ifc (zSi prg) true) .neq .nilIface .nilIface=some (.bool false):=rfl
theorem zWf {H:zAd}{l:List UInt8}(hl:l.length<=1048576):zAg prg zB6 [str l] H fun u H'=>u=str l/\Keep (fun _=>False) H H':=by
 apply zGN
 unfold zEV
 have e0:zAh .no .eql (.int .i64 (l.length:Nat)) (.int .i64 0)=some (.bool (decide (l=[]))):=by
  rw[zAi];simp only[zA9];congr 2;rw[Bool.eq_iff_iff];simp
 simp only[zDU,zAa,e0]
 cases hx:decide (l=[]) <;> simp only[zAq,Bool.not_true,Bool.not_false,zAl,zAo,zAe,zAc,zAa,if_true,if_false,Bool.false_eq_true,Bool.true_eq_false,decide_true,decide_false,reduceCtorEq,zAF,zCz,zCA,zCw,zCx,zCy,zAw,zAr]
 rotate_left
 ·rw[of_decide_eq_true hx];exact⟨by trivial,Keep.refl⟩
 have hne:=of_decide_eq_false hx
 have hpos:0<l.length:=List.length_pos_iff.2 hne
 obtain⟨z,hz,hzs⟩:∃ z,zAB prg zAS=some z/\z=#[Value.int .u8 0]:=⟨_,by kernel_rfl,rfl⟩
 have hb:prg.bytesOf zAS=1:=by kernel_rfl
 have hc:prg.cellsOf zAS=1:=by kernel_rfl
 have hi:(prg.info? zAS).isSome=true:=by kernel_rfl
 refine⟨.i64,.i64,l.length,l.length,z,rfl,rfl,Nat.le_refl _,by rw[hb];omega,by omega,hz,hi,?_⟩
 have hzr:zOZ z (l.length * prg.cellsOf zAS)=(zAy (List.replicate l.length 0)).toArray:=by
  rw[hc,Nat.mul_one,hzs]
  unfold zOZ zAy
  apply Array.ext'
  simp only[Array.toList_map,Array.toList_range,List.map_replicate]
  rw[List.eq_replicate_iff]
  refine⟨by simp,fun x hx=>?_⟩
  obtain⟨i,_,rfl⟩:=List.mem_map.1 hx
  simp[Nat.mod_one]
 rw[hzr]
 generalize hH1:H.push (.cells (zAy (List.replicate l.length 0)).toArray zAS (0,0))=H1
 have k1:Keep (fun _=>False) H H1:=by rw[<- hH1];exact Keep.push
 have hq1:H1[H.size]? = some (.cells (zAy (List.replicate l.length 0)).toArray zAS (0,0)):=by rw[<- hH1];exact zAR
 have hcp:=@zW5 H1 H.size l.length (List.replicate l.length 0) l (str l) zAS
 rw[List.length_replicate]at hcp
 refine hcp hq1 zAck (Nat.le_refl _) ?_
 have hcat:l++(List.replicate l.length (0:UInt8)).drop l.length=l:=by simp
 rw[hcat]
 generalize hH2:H1.setIfInBounds H.size (.cells (zAy l).toArray zAS (0,0))=H2
 have k2:Keep (· = H.size) H1 H2:=by rw[<- hH2];exact Keep.set rfl
 have hq2:H2[H.size]? = some (.cells (zAy l).toArray zAS (0,0)):=by rw[<- hH2];exact zAt hq1
 have hix:ixS 1 (.slice (some ⟨H.size,0,none⟩) l.length l.length) (.int .i64 0)=some (Ptr H.size 0):=by
  simp only[ixS];rw[if_pos ⟨by omega,by omega⟩];rfl
 rw[hix,zAa,zIf,zAa]
 intro w hw
 obtain⟨t,ht,hu⟩:=zAfs
 have hsh:w.shape? H.size=some (zAS,(zAy l).toArray.size):=by simp[World.shape?,hw,hq2]
 refine⟨_,_,Lib.run_unsafeString_row w _ _ _ zAS (by rw[ht];exact hu) zAh3 H.size (zAy l).toArray.size hsh l hne (by simp) (by omega) ?_,?_,rfl,?_⟩
 ·intro j x hx
  have hlt:=(List.getElem?_eq_some_iff.1 hx).1
  have e:(⟨H.size,0,none⟩:Addr).add j=⟨H.size,j,none⟩:=by
   unfold Addr.add;split
   ·rename_i h;subst h;rfl
   ·simp
  rw[e]
  unfold World.cell?
  simp only[hw,hq2]
  simp[zAy,hx]
 ·obtain⟨_,_,h3⟩:=zLR (w:=w) (b:=H.size) (n:=l.length)
  refine⟨?_,?_,?_,h3⟩ <;> (unfold World.freeze;split <;> rfl)
 ·obtain⟨h1,h2,_⟩:=zLR (w:=w) (b:=H.size) (n:=l.length)
  rw[hw]at h1 h2
  have k3:Keep (· = H.size) H2 (w.freeze ⟨H.size,0,none⟩ l.length).heap:=⟨Nat.le_of_eq h1.symm,fun i _ hn=>h2 i hn⟩
  exact(k1.fresh k2 fun b hb=>by omega).fresh k3 fun b hb=>by omega
theorem zAbk:∃ z,zJT prg zCk=some ([(0,1),(1,1),(2,1)],z)/\z.size=3:=⟨#[str [],str [],.nilIface],by kernel_rfl,rfl⟩
theorem zWg {a b:List UInt8}{T:TypeId}{x:Value}:∃ c,zA4 prg zCk [(0,str a),(1,str b),(2,.iface T x)]=some (.agg c):=by
 obtain⟨z,hk,hz⟩:=zAbk
 rw[zGf hk]
 have s1:(Value.cells (str a)).size=1:=rfl
 have s2:(Value.cells (str b)).size=1:=rfl
 have s3:(Value.cells (.iface T x)).size=1:=rfl
 have l1:(spl z 0 (Value.cells (str a))).size=3:=by rw[zIA (by rw[s1,hz];omega),hz]
 have l2:(spl (spl z 0 (Value.cells (str a))) 1 (Value.cells (str b))).size=3:=by rw[zIA (by rw[s2,l1];omega),l1]
 rw[zGU (off:=0) (n:=1) rfl rfl (by omega),zGU (off:=1) (n:=1) rfl rfl (by omega),zGU (off:=2) (n:=1) rfl rfl (by omega),zQC]
 exact⟨_,rfl⟩
theorem zAh6 {v:Value}:mkI prg zBK v=some (.iface zBK v):=by
 have h:∃ d,prg.underlying zBK=some (.pointer d):=⟨zCk,by kernel_rfl⟩
 obtain⟨d,h⟩:=h
 unfold mkI;rw[h]
theorem zSO {H:zAd}{a l:List UInt8}(hE:zAbj H)(hl:l.length<=1048576):zAg prg zFx [str a,str l] H fun u H'=>Keep (fun _=>False) H H':=by
 apply zJA
 unfold zHW
 obtain⟨T,x,t,f,h1⟩:=hE.syn
 have e0:ld1 H (.pointer (some ⟨zBq,0,none⟩))=some (.iface T x):=zO0 (cs:=[.iface T x]) h1 rfl
 rw[e0,zAa]
 refine zAk (zWf hl) ?_
 rintro _ h ⟨rfl,k⟩
 have e1:ld1 h (.pointer (some ⟨zBq,0,none⟩))=some (.iface T x):=zO0 (cs:=[.iface T x]) (k.at h1 id) rfl
 obtain⟨c,hc⟩:=zWg (a:=a) (b:=l) (T:=T) (x:=x)
 simp only[e1,hc,zAq,Bool.not_true,Bool.not_false,zAl,zAo,zAe,zAc,zAa,if_true,if_false,Bool.false_eq_true,Bool.true_eq_false,decide_true,decide_false,reduceCtorEq,zAF,zCz,zCA,zCw,zCx,zCy,zAw,zAr,zAs]
 exact k.trans Keep.push
theorem zT0 {H:zAd}{a l:List UInt8}(hE:zAbj H)(hl:l.length<=1048576):zAg prg zF1 [str a,str l] H fun u H'=>Keep (fun _=>False) H H':=by
 apply zJ2
 unfold zIK
 obtain⟨T,x,t,f,h1⟩:=hE.rng
 have e0:ld1 H (.pointer (some ⟨zBw,0,none⟩))=some (.iface T x):=zO0 (cs:=[.iface T x]) h1 rfl
 rw[e0,zAa]
 refine zAk (zWf hl) ?_
 rintro _ h ⟨rfl,k⟩
 have e1:ld1 h (.pointer (some ⟨zBw,0,none⟩))=some (.iface T x):=zO0 (cs:=[.iface T x]) (k.at h1 id) rfl
 obtain⟨c,hc⟩:=zWg (a:=a) (b:=l) (T:=T) (x:=x)
 simp only[e1,hc,zAq,Bool.not_true,Bool.not_false,zAl,zAo,zAe,zAc,zAa,if_true,if_false,Bool.false_eq_true,Bool.true_eq_false,decide_true,decide_false,reduceCtorEq,zAF,zCz,zCA,zCw,zCx,zCy,zAw,zAr,zAs]
 exact k.trans Keep.push
def zAfF (e:Value):Prop:=e = .nilIface\/e=err 1\/e=err 2
theorem zT1 {H:zAd}{a l:List UInt8}{e:Value}(hE:zAbj H)(hl:l.length<=1048576)(he:e=err 1\/e=err 2) :
  zAg prg zIa [str a,str l,.int .i64 0,.int .i64 0,e] H fun u H'=>Keep (fun _=>False) H H':=by
 apply zLk
 unfold zKC
 rcases he with rfl | rfl
 ·simp only[zH2,zAcu,zAq,Bool.not_true,Bool.not_false,zAl,zAo,zAe,zAc,zAa,if_true,if_false,Bool.false_eq_true,Bool.true_eq_false,decide_true,decide_false,reduceCtorEq,zAF,zCz,zCA,zCw,zCx,zCy,zAw,zAr,show((1:Int) == 2)=false from rfl,show((1:Int) == 1)=true from rfl]
  refine zAk (zT0 hE hl) ?_
  intro u h k
  simp only[zAh6,zAq,Bool.not_true,Bool.not_false,zAl,zAo,zAe,zAc,zAa,if_true,if_false,Bool.false_eq_true,Bool.true_eq_false,decide_true,decide_false,reduceCtorEq,zAF,zCz,zCA,zCw,zCx,zCy,zAw,zAr]
  exact k
 ·simp only[zH2,zAcu,zAq,Bool.not_true,Bool.not_false,zAl,zAo,zAe,zAc,zAa,if_true,if_false,Bool.false_eq_true,Bool.true_eq_false,decide_true,decide_false,reduceCtorEq,zAF,zCz,zCA,zCw,zCx,zCy,zAw,zAr,show((2:Int) == 2)=true from rfl]
  refine zAk (zSO hE hl) ?_
  intro u h k
  simp only[zAh6,zAq,Bool.not_true,Bool.not_false,zAl,zAo,zAe,zAc,zAa,if_true,if_false,Bool.false_eq_true,Bool.true_eq_false,decide_true,decide_false,reduceCtorEq,zAF,zCz,zCA,zCw,zCx,zCy,zAw,zAr]
  exact k
theorem _root_.Go.X.J3_i {body:(Value->Value->Value->zAd->Prop)->Prop}{rest:Value->Value->Value->zAd->Prop}(I:Value->Value->Value->zAd->Prop)(h1:∀ k:Value->Value->Value->zAd->Prop,(∀ x y z h,I x y z h->k x y z h)->body k)(h2:∀ x y z h,I x y z h->rest x y z h):J3 body rest := .mk (h1 rest h2)
theorem _root_.Go.X.J4_i {body:(Value->Value->Value->Value->zAd->Prop)->Prop}{rest:Value->Value->Value->Value->zAd->Prop}(I:Value->Value->Value->Value->zAd->Prop)(h1:∀ k:Value->Value->Value->Value->zAd->Prop,(∀ x y z t h,I x y z t h->k x y z t h)->body k)(h2:∀ x y z t h,I x y z t h->rest x y z t h):J4 body rest := .mk (h1 rest h2)
theorem zAdP {T:TypeId}{H:zAd}{l:List UInt8}{k:Value->zAd->Prop}(hl:l.length<=1099511627776)
  (hk:∀ v h',Sl (· = H.size) h' v l->Keep (fun _=>False) H h'->k v h'):zWS T H (str l) k:=by
 refine⟨_,rfl,by rw[zGK];omega,fun cap h1 h2=>hk _ _ ?_ Keep.push⟩
 rw[zGK]at h1
 refine⟨?_,⟨_,cap,by rw[zGK],by omega,fun x hx=>by cases hx;rfl⟩,fun b hb=>by obtain⟨rfl,_⟩:=zHu hb;rfl⟩
 refine Bs.mk zAR zGK (by simp[ByteArray.size]) ?_
 rw[zGK,List.drop_zero,Array.toList_append,List.take_append_of_le_length (by simp),List.take_of_length_le (by simp)]
 simp[zAy]
theorem zPq {H:zAd}{x:Int}:zAg prg zA8 [.int .u8 x] H fun u H'=>(∃ y,u = .int .u8 y)/\H=H':=by
 apply zIl
 unfold zGm
 simp only[zAi,zA9,zAa]
 exact⟨⟨_,rfl⟩,by trivial⟩
def PuR (H:zAd)(u:Value)(H':zAd):Prop:=(∃ n e,u = .tuple #[.int .u64 n,e]/\zAfF e)/\Keep (fun _=>False) H H'
set_option maxHeartbeats 1000000 in
theorem zVd {H:zAd}{l:List UInt8}(hl:l.length<=1048576):zAg prg zDc [str l,.int .i64 10,.int .i64 0] H (PuR H):=by
 apply zGM
 unfold zEU
 have f1:zAh .no .eql (.int .i64 10) (.int .i64 0)=some (.bool false):=rfl
 have f2:zAh .no .leq (.int .i64 2) (.int .i64 10)=some (.bool true):=rfl
 have f3:zAh .no .leq (.int .i64 10) (.int .i64 36)=some (.bool true):=rfl
 have f4:zAh .no .eql (.int .i64 0) (.int .i64 0)=some (.bool true):=rfl
 have f5:zAh .no .eql (.int .i64 10) (.int .i64 10)=some (.bool true):=rfl
 have f6:cvI .u64 (.int .i64 64)=some (.int .u64 64):=rfl
 have f7:zAh .no .shl (.int .u64 1) (.int .u64 64)=some (.int .u64 0):=by kernel_rfl
 have f8:zAh .no .sub (.int .u64 0) (.int .u64 1)=some (.int .u64 18446744073709551615):=by kernel_rfl
 have f9:cvI .u8 (.int .i64 10)=some (.int .u8 10):=rfl
 have f10:cvI .u64 (.int .i64 10)=some (.int .u64 10):=rfl
 have e0:=fun q=>zBX (q:=q) (a:=l) (b:=[])
 have bad:∀ (k n:Int) (h:zAd),(k=1\/k=2)->Keep (fun _=>False) H h->PuR H (.tuple #[.int .u64 n,err k]) h:=fun k n h hk kk=>⟨⟨n,_,rfl,by rcases hk with rfl | rfl;exact .inr (.inl rfl);exact .inr (.inr rfl)⟩,kk⟩
 rw[e0,zAa,zAc]
 cases hx:decide (l=[])
 rotate_left
 ·rw[if_pos rfl,zH2,zAa]
  exact bad 2 0 H (.inr rfl) Keep.refl
 rw[if_neg (by decide)]
 simp only[f1,f2,f3,f4,f5,f6,f7,f8,zAq,Bool.not_true,Bool.not_false,zAl,zAo,zAe,zAc,zAa,if_true,if_false,Bool.false_eq_true,Bool.true_eq_false,decide_true,decide_false,reduceCtorEq,zAF,zCz,zCA,zCw,zCx,zCy,zAw,zAr,zAgV]
 refine zAdP (by omega) fun v h1 hv k1=>?_
 simp only[hv.len,zAa]
 refine zAhU (fun t12 t13 t101 h=>t12 = .bool false/\(∃ n,t13 = .int .u64 n)/\(∃ i:Nat,i<=l.length/\t101 = .int .i64 (i:Nat))/\h1=h) (fun _ _ u _=>match u with | .int _ t=>l.length - t.toNat | _=>0) ⟨rfl,⟨0,rfl⟩,⟨0,Nat.zero_le _,rfl⟩,rfl⟩ ?_
 rintro _ _ _ _ ⟨rfl,⟨n,rfl⟩,⟨i,hi,rfl⟩,rfl⟩ k hk
 have elt:zAh .no .lss (.int .i64 (i:Nat)) (.int .i64 (l.length:Nat))=some (.bool (decide (i<l.length))):=by
  rw[zAi];simp only[zA9];congr 2;rw[decide_eq_decide];omega
 rw[elt,zAa,zAc]
 by_cases hlt:i<l.length
 ·rw[if_pos (by simpa using hlt)]
  have hg:l[i]? = some l[i]:=List.getElem?_eq_getElem hlt
  generalize l[i]=x at hg
  obtain⟨p,hix,hld,_⟩:=hv.at hg
  simp only[hix,hld,zAa]
  refine J4_i (fun t12 t13 _ _ h=>t12 = .bool false/\(∃ n,t13 = .int .u64 n)/\h1=h) (fun k25 hk25=>?_) ?_
  rotate_left
  ·rintro _ _ _ _ _ ⟨rfl,⟨m,rfl⟩,rfl⟩
   rw[zAG (by omega),zAa]
   exact hk _ _ _ _ ⟨rfl,⟨m,rfl⟩,⟨i+1,by omega,rfl⟩,rfl⟩ (by show l.length - (i+1)<l.length - i;omega)
  ·refine J4_i (fun t12 t16 _ _ h=>t12 = .bool false/\(∃ d,t16 = .int .u8 d)/\h1=h) (fun k27 hk27=>?_) ?_
   ·simp only[zAi,zA9,zAq,Bool.not_true,Bool.not_false,zAl,zAo,zAe,zAc,zAa,if_true,if_false,Bool.false_eq_true,Bool.true_eq_false,decide_true,decide_false,reduceCtorEq,zAF,zCz,zCA,zCw,zCx,zCy,zAw,zAr]
    generalize ((x.toNat:Int) == 95)=b1
    have e2:∀ t:Value,zAC (.bool b1) (if b1=true then .bool false else t) (.bool false)=some (.bool false):=fun t=>by cases b1 <;> rfl
    cases b1 <;> simp only[zAq,Bool.not_true,Bool.not_false,zAl,zAo,zAe,zAc,zAa,if_true,if_false,Bool.false_eq_true,Bool.true_eq_false,decide_true,decide_false,reduceCtorEq,zAF,zCz,zCA,zCw,zCx,zCy,zAw,zAr]
    all_goals
     cases h48:decide ((48:Int)<=x.toNat) <;> simp only[zAq,Bool.not_true,Bool.not_false,zAl,zAo,zAe,zAc,zAa,if_true,if_false,Bool.false_eq_true,Bool.true_eq_false,decide_true,decide_false,reduceCtorEq,zAF,zCz,zCA,zCw,zCx,zCy,zAw,zAr]
     ·refine zAk zPq ?_
      rintro _ _ ⟨⟨y,rfl⟩,rfl⟩
      simp only[zAi,zA9,zAq,Bool.not_true,Bool.not_false,zAl,zAo,zAe,zAc,zAa,if_true,if_false,Bool.false_eq_true,Bool.true_eq_false,decide_true,decide_false,reduceCtorEq,zAF,zCz,zCA,zCw,zCx,zCy,zAw,zAr]
      cases h97:decide ((97:Int)<=y) <;> simp only[zAq,Bool.not_true,Bool.not_false,zAl,zAo,zAe,zAc,zAa,if_true,if_false,Bool.false_eq_true,Bool.true_eq_false,decide_true,decide_false,reduceCtorEq,zAF,zCz,zCA,zCw,zCx,zCy,zAw,zAr]
      ·rw[zH2,zAa];exact bad 2 0 _ (.inr rfl) k1
      ·refine zAk zPq ?_
       rintro _ _ ⟨⟨z,rfl⟩,rfl⟩
       simp only[zAi,zA9,zAq,Bool.not_true,Bool.not_false,zAl,zAo,zAe,zAc,zAa,if_true,if_false,Bool.false_eq_true,Bool.true_eq_false,decide_true,decide_false,reduceCtorEq,zAF,zCz,zCA,zCw,zCx,zCy,zAw,zAr]
       cases h122:decide (z<=(122:Int)) <;> simp only[zAq,Bool.not_true,Bool.not_false,zAl,zAo,zAe,zAc,zAa,if_true,if_false,Bool.false_eq_true,Bool.true_eq_false,decide_true,decide_false,reduceCtorEq,zAF,zCz,zCA,zCw,zCx,zCy,zAw,zAr]
       ·rw[zH2,zAa];exact bad 2 0 _ (.inr rfl) k1
       ·refine zAk zPq ?_
        rintro _ _ ⟨⟨y2,rfl⟩,rfl⟩
        simp only[zAi,zA9,zAq,Bool.not_true,Bool.not_false,zAl,zAo,zAe,zAc,zAa,if_true,if_false,Bool.false_eq_true,Bool.true_eq_false,decide_true,decide_false,reduceCtorEq,zAF,zCz,zCA,zCw,zCx,zCy,zAw,zAr]
        exact hk27 _ _ _ _ _ ⟨rfl,⟨_,rfl⟩,rfl⟩
     ·cases h57:decide ((x.toNat:Int)<=57) <;> simp only[zAq,Bool.not_true,Bool.not_false,zAl,zAo,zAe,zAc,zAa,if_true,if_false,Bool.false_eq_true,Bool.true_eq_false,decide_true,decide_false,reduceCtorEq,zAF,zCz,zCA,zCw,zCx,zCy,zAw,zAr]
      ·refine zAk zPq ?_
       rintro _ _ ⟨⟨y,rfl⟩,rfl⟩
       simp only[zAi,zA9,zAq,Bool.not_true,Bool.not_false,zAl,zAo,zAe,zAc,zAa,if_true,if_false,Bool.false_eq_true,Bool.true_eq_false,decide_true,decide_false,reduceCtorEq,zAF,zCz,zCA,zCw,zCx,zCy,zAw,zAr]
       cases h97:decide ((97:Int)<=y) <;> simp only[zAq,Bool.not_true,Bool.not_false,zAl,zAo,zAe,zAc,zAa,if_true,if_false,Bool.false_eq_true,Bool.true_eq_false,decide_true,decide_false,reduceCtorEq,zAF,zCz,zCA,zCw,zCx,zCy,zAw,zAr]
       ·rw[zH2,zAa];exact bad 2 0 _ (.inr rfl) k1
       ·refine zAk zPq ?_
        rintro _ _ ⟨⟨z,rfl⟩,rfl⟩
        simp only[zAi,zA9,zAq,Bool.not_true,Bool.not_false,zAl,zAo,zAe,zAc,zAa,if_true,if_false,Bool.false_eq_true,Bool.true_eq_false,decide_true,decide_false,reduceCtorEq,zAF,zCz,zCA,zCw,zCx,zCy,zAw,zAr]
        cases h122:decide (z<=(122:Int)) <;> simp only[zAq,Bool.not_true,Bool.not_false,zAl,zAo,zAe,zAc,zAa,if_true,if_false,Bool.false_eq_true,Bool.true_eq_false,decide_true,decide_false,reduceCtorEq,zAF,zCz,zCA,zCw,zCx,zCy,zAw,zAr]
        ·rw[zH2,zAa];exact bad 2 0 _ (.inr rfl) k1
        ·refine zAk zPq ?_
         rintro _ _ ⟨⟨y2,rfl⟩,rfl⟩
         simp only[zAi,zA9,zAq,Bool.not_true,Bool.not_false,zAl,zAo,zAe,zAc,zAa,if_true,if_false,Bool.false_eq_true,Bool.true_eq_false,decide_true,decide_false,reduceCtorEq,zAF,zCz,zCA,zCw,zCx,zCy,zAw,zAr]
         exact hk27 _ _ _ _ _ ⟨rfl,⟨_,rfl⟩,rfl⟩
      ·exact hk27 _ _ _ _ _ ⟨rfl,⟨_,rfl⟩,rfl⟩
   ·rintro _ _ _ _ _ ⟨rfl,⟨d,rfl⟩,rfl⟩
    simp only[f9,f10,zAi,zA9,zAq,Bool.not_true,Bool.not_false,zAl,zAo,zAe,zAc,zAa,if_true,if_false,Bool.false_eq_true,Bool.true_eq_false,decide_true,decide_false,reduceCtorEq,zAF,zCz,zCA,zCw,zCx,zCy,zAw,zAr]
    cases h10:decide (d>=(10:Int)) <;> simp only[zAq,Bool.not_true,Bool.not_false,zAl,zAo,zAe,zAc,zAa,if_true,if_false,Bool.false_eq_true,Bool.true_eq_false,decide_true,decide_false,reduceCtorEq,zAF,zCz,zCA,zCw,zCx,zCy,zAw,zAr]
    ·cases hcut:decide (n>=(1844674407370955162:Int)) <;> simp only[zAq,Bool.not_true,Bool.not_false,zAl,zAo,zAe,zAc,zAa,if_true,if_false,Bool.false_eq_true,Bool.true_eq_false,decide_true,decide_false,reduceCtorEq,zAF,zCz,zCA,zCw,zCx,zCy,zAw,zAr]
     ·rw[zDr,zAa]
      simp only[zAi,zA9,zAq,Bool.not_true,Bool.not_false,zAl,zAo,zAe,zAc,zAa,if_true,if_false,Bool.false_eq_true,Bool.true_eq_false,decide_true,decide_false,reduceCtorEq,zAF,zCz,zCA,zCw,zCx,zCy,zAw,zAr]
      generalize IntKind.u64.wrap (IntKind.u64.wrap (n * 10)+IntKind.u64.wrap d)=m
      cases h1':decide (m<IntKind.u64.wrap (n * 10)) <;> simp only[zAq,Bool.not_true,Bool.not_false,zAl,zAo,zAe,zAc,zAa,if_true,if_false,Bool.false_eq_true,Bool.true_eq_false,decide_true,decide_false,reduceCtorEq,zAF,zCz,zCA,zCw,zCx,zCy,zAw,zAr]
      ·cases h2':decide (m > (18446744073709551615:Int)) <;> simp only[zAq,Bool.not_true,Bool.not_false,zAl,zAo,zAe,zAc,zAa,if_true,if_false,Bool.false_eq_true,Bool.true_eq_false,decide_true,decide_false,reduceCtorEq,zAF,zCz,zCA,zCw,zCx,zCy,zAw,zAr]
       ·exact hk25 _ _ _ _ _ ⟨rfl,⟨_,rfl⟩,rfl⟩
       ·rw[zH2,zAa];exact bad 1 _ _ (.inl rfl) k1
      ·rw[zH2,zAa];exact bad 1 _ _ (.inl rfl) k1
     ·rw[zH2,zAa];exact bad 1 _ _ (.inl rfl) k1
    ·rw[zH2,zAa];exact bad 2 0 _ (.inr rfl) k1
 ·rw[if_neg (by simpa using hlt)]
  simp only[zAq,Bool.not_true,Bool.not_false,zAl,zAo,zAe,zAc,zAa,if_true,if_false,Bool.false_eq_true,Bool.true_eq_false,decide_true,decide_false,reduceCtorEq,zAF,zCz,zCA,zCw,zCx,zCy,zAw,zAr]
  exact⟨⟨n,_,rfl,.inl rfl⟩,k1⟩
def PiR (H:zAd)(u:Value)(H':zAd):Prop:=(∃ n e,u = .tuple #[.int .i64 n,e]/\zAfF e)/\Keep (fun _=>False) H H'
theorem zXf {H:zAd}{l:List UInt8}(hl:l.length<=1048576):zAg prg zCi [str l,.int .i64 10,.int .i64 0] H (PiR H):=by
 apply zHb
 unfold zFh
 have e0:=fun q=>zBX (q:=q) (a:=l) (b:=[])
 have ok:∀ (n:Int) (e:Value) (h:zAd),zAfF e->Keep (fun _=>False) H h->PiR H (.tuple #[.int .i64 n,e]) h:=fun n e h he kk=>⟨⟨n,e,rfl,he⟩,kk⟩
 rw[e0,zAa,zAc]
 cases l with
 | nil =>
  rw[if_pos (by simp),zH2,zAa]
  exact ok 0 _ _ (.inr (.inr rfl)) Keep.refl
 | cons x l =>
  rw[if_neg (by simp)]
  have hi:ixT (str (x :: l)) (.int .i64 0)=some (.int .u8 x.toNat):=zI4 (i:=0) rfl
  have hs:slT (str (x :: l)) (some (.int .i64 1)) none=some (str l):=zSM (l:=x :: l) (o:=1) (by simp)
  refine zLf (fun t0 t8 h=>(∃ l2:List UInt8,t0=str l2/\l2.length<=1048576)/\(∃ b:Bool,t8 = .bool b)/\H=h) (fun k hk=>?_) ?_
  ·simp only[hi,zAa,zAi,zA9]
   have hl':l.length<=1048576:=by simp at hl;omega
   cases h43:((x.toNat:Int) == 43) <;> simp only[zAq,Bool.not_true,Bool.not_false,zAl,zAo,zAe,zAc,zAa,if_true,if_false,Bool.false_eq_true,Bool.true_eq_false,decide_true,decide_false,reduceCtorEq,zAF,zCz,zCA,zCw,zCx,zCy,zAw,zAr]
   ·cases h45:((x.toNat:Int) == 45) <;> simp only[zAq,Bool.not_true,Bool.not_false,zAl,zAo,zAe,zAc,zAa,if_true,if_false,Bool.false_eq_true,Bool.true_eq_false,decide_true,decide_false,reduceCtorEq,zAF,zCz,zCA,zCw,zCx,zCy,zAw,zAr]
    ·exact hk _ _ _ ⟨⟨_,rfl,hl⟩,⟨_,rfl⟩,rfl⟩
    ·rw[hs,zAa];exact hk _ _ _ ⟨⟨_,rfl,hl'⟩,⟨_,rfl⟩,rfl⟩
   ·rw[hs,zAa];exact hk _ _ _ ⟨⟨_,rfl,hl'⟩,⟨_,rfl⟩,rfl⟩
  rintro _ _ _ ⟨⟨l2,rfl,hl2⟩,⟨b,rfl⟩,rfl⟩
  refine zAk (zVd hl2) ?_
  rintro _ h3 ⟨⟨n,e,rfl,he⟩,k3⟩
  have f1:zAh .no .eql (.int .i64 0) (.int .i64 0)=some (.bool true):=rfl
  have f2:zAh .no .sub (.int .i64 64) (.int .i64 1)=some (.int .i64 63):=rfl
  have f3:cvI .u64 (.int .i64 63)=some (.int .u64 63):=rfl
  have f4:zAh .no .shl (.int .u64 1) (.int .u64 63)=some (.int .u64 9223372036854775808):=by kernel_rfl
  have f5:zAh .no .sub (.int .u64 9223372036854775808) (.int .u64 1)=some (.int .u64 9223372036854775807):=by kernel_rfl
  have g:∀ a:Int,unV .neg (.int .i64 a)=some (.int .i64 (IntKind.i64.wrap (0 - a))):=fun a=>rfl
  have tail:∀ e:Value,zAfF e->zAh (.ifc (zSi prg) true) .neq e .nilIface=some (.bool false)\/e=err 1\/e=err 2:=fun e he=>by
   rcases he with rfl | rfl | rfl
   ·exact .inl zVc
   ·exact .inr (.inl rfl)
   ·exact .inr (.inr rfl)
  rcases he with rfl | rfl | rfl
  ·simp only[zVc,f1,f2,f3,f4,f5,g,zDr,zAi,zA9,zH2,zAq,Bool.not_true,Bool.not_false,zAl,zAo,zAe,zAc,zAa,if_true,if_false,Bool.false_eq_true,Bool.true_eq_false,decide_true,decide_false,reduceCtorEq,zAF,zCz,zCA,zCw,zCx,zCy,zAw,zAr]
   cases b <;> simp only[zAq,Bool.not_true,Bool.not_false,zAl,zAo,zAe,zAc,zAa,if_true,if_false,Bool.false_eq_true,Bool.true_eq_false,decide_true,decide_false,reduceCtorEq,zAF,zCz,zCA,zCw,zCx,zCy,zAw,zAr]
   ·cases hA:decide (n>=(9223372036854775808:Int)) <;> simp only[zAq,Bool.not_true,Bool.not_false,zAl,zAo,zAe,zAc,zAa,if_true,if_false,Bool.false_eq_true,Bool.true_eq_false,decide_true,decide_false,reduceCtorEq,zAF,zCz,zCA,zCw,zCx,zCy,zAw,zAr]
    ·exact ok _ _ _ (.inl rfl) k3
    ·exact ok _ _ _ (.inr (.inl rfl)) k3
   ·cases hA:decide (n > (9223372036854775808:Int)) <;> simp only[zAq,Bool.not_true,Bool.not_false,zAl,zAo,zAe,zAc,zAa,if_true,if_false,Bool.false_eq_true,Bool.true_eq_false,decide_true,decide_false,reduceCtorEq,zAF,zCz,zCA,zCw,zCx,zCy,zAw,zAr]
    ·exact ok _ _ _ (.inl rfl) k3
    ·exact ok _ _ _ (.inr (.inl rfl)) k3
  ·simp only[zSN,zAcv,f1,f2,f3,f4,f5,g,zDr,zAi,zA9,zH2,zAq,Bool.not_true,Bool.not_false,zAl,zAo,zAe,zAc,zAa,if_true,if_false,Bool.false_eq_true,Bool.true_eq_false,decide_true,decide_false,reduceCtorEq,zAF,zCz,zCA,zCw,zCx,zCy,zAw,zAr,show((1:Int) == 1)=true from rfl]
   cases b <;> simp only[zAq,Bool.not_true,Bool.not_false,zAl,zAo,zAe,zAc,zAa,if_true,if_false,Bool.false_eq_true,Bool.true_eq_false,decide_true,decide_false,reduceCtorEq,zAF,zCz,zCA,zCw,zCx,zCy,zAw,zAr]
   ·cases hA:decide (n>=(9223372036854775808:Int)) <;> simp only[zAq,Bool.not_true,Bool.not_false,zAl,zAo,zAe,zAc,zAa,if_true,if_false,Bool.false_eq_true,Bool.true_eq_false,decide_true,decide_false,reduceCtorEq,zAF,zCz,zCA,zCw,zCx,zCy,zAw,zAr]
    ·exact ok _ _ _ (.inl rfl) k3
    ·exact ok _ _ _ (.inr (.inl rfl)) k3
   ·cases hA:decide (n > (9223372036854775808:Int)) <;> simp only[zAq,Bool.not_true,Bool.not_false,zAl,zAo,zAe,zAc,zAa,if_true,if_false,Bool.false_eq_true,Bool.true_eq_false,decide_true,decide_false,reduceCtorEq,zAF,zCz,zCA,zCw,zCx,zCy,zAw,zAr]
    ·exact ok _ _ _ (.inl rfl) k3
    ·exact ok _ _ _ (.inr (.inl rfl)) k3
  ·simp only[zSN,zAcv,zH2,zAq,Bool.not_true,Bool.not_false,zAl,zAo,zAe,zAc,zAa,if_true,if_false,Bool.false_eq_true,Bool.true_eq_false,decide_true,decide_false,reduceCtorEq,zAF,zCz,zCA,zCw,zCx,zCy,zAw,zAr,show((2:Int) == 1)=false from rfl]
   exact ok _ _ _ (.inr (.inr rfl)) k3
theorem zYQ (n:Nat)(h:n<1000000):1<=(zEZ n).length/\(zEZ n).length<=6:=⟨List.length_pos_iff.2 (zAdM n),zLT h⟩
theorem zSK.not {l:List UInt8}{n:Int}(h:∀ m,m<=999999->l≠zEZ m):zSK l n:=fun m hm e=>absurd e (h m hm)
def isD (x:UInt8):Prop:=48<=x.toNat/\x.toNat<=57
theorem zQW:∀ {l:List UInt8} {n:Nat},(∀ x ∈ l,isD x)->l.foldl (fun n c=>n * 10+(c.toNat - 48)) n<(n+1) * 10 ^ l.length
 | [],n,_=>by simp
 | x :: l,n,h=>by
  have h2:=h x (by simp)
  unfold isD at h2
  have h1:=zQW (l:=l) (n:=n * 10+(x.toNat - 48)) fun y hy=>h y (by simp[hy])
  rw[List.foldl_cons,List.length_cons,Nat.pow_succ]
  have h3:(n * 10+(x.toNat - 48)+1) * 10 ^ l.length<=((n+1) * 10) * 10 ^ l.length:=Nat.mul_le_mul_right _ (by omega)
  have h4:((n+1) * 10) * 10 ^ l.length=(n+1) * (10 ^ l.length * 10):=by rw[Nat.mul_assoc,Nat.mul_comm 10]
  omega
theorem zAdQ {l:List UInt8}(h:∀ x ∈ l,isD x):zXM l<10 ^ l.length:=by
 have:=zQW (n:=0) h
 rw[Nat.zero_add,Nat.one_mul]at this
 exact this
def AiR (l:List UInt8)(H:zAd)(u:Value)(H':zAd):Prop:=(∃ n e,u = .tuple #[.int .i64 n,e]/\zAfF e/\zSK l n)/\Keep (fun _=>False) H H'
theorem zAdR {H:zAd}{l:List UInt8}(hl:l.length<=1048576):zAg prg zEE [str l] H (AiR l H):=by
 apply zII
 unfold zGX
 have e1:zAh .no .lss (.int .i64 0) (.int .i64 (l.length:Nat))=some (.bool (decide (0<l.length))):=by
  rw[zAi];simp only[zA9];congr 2;rw[decide_eq_decide];omega
 have e2:zAh .no .lss (.int .i64 (l.length:Nat)) (.int .i64 19)=some (.bool (decide (l.length<19))):=by
  rw[zAi];simp only[zA9];congr 2;rw[decide_eq_decide];omega
 have far:∀ (h:¬ (0<l.length/\l.length<19)),∀ n,zSK l n:=fun h n=>zSK.not fun m hm e=>h (by
  have:=zYQ m (by omega);rw[<- e]at this;omega)
 have slow:¬ (0<l.length/\l.length<19)->zAp prg zCi [str l,.int .i64 10,.int .i64 0] H fun t72 h30=>Mpu (zDy 0 t72) fun t73=>Mpu (zDy 1 t72) fun t74=>AiR l H (.tuple #[t73,t74]) h30:=fun h=>by
  refine zAk (zXf hl) ?_
  rintro _ h3 ⟨⟨n,e,rfl,he⟩,k3⟩
  simp only[zAq,Bool.not_true,Bool.not_false,zAl,zAo,zAe,zAc,zAa,if_true,if_false,Bool.false_eq_true,Bool.true_eq_false,decide_true,decide_false,reduceCtorEq,zAF,zCz,zCA,zCw,zCx,zCy,zAw,zAr]
  exact⟨⟨n,e,rfl,he,far h n⟩,k3⟩
 simp only[zDU,e1,e2,zAq,Bool.not_true,Bool.not_false,zAl,zAo,zAe,zAc,zAa,if_true,if_false,Bool.false_eq_true,Bool.true_eq_false,decide_true,decide_false,reduceCtorEq,zAF,zCz,zCA,zCw,zCx,zCy,zAw,zAr,zAgX]
 cases h0:decide (0<l.length) <;> simp only[zAq,Bool.not_true,Bool.not_false,zAl,zAo,zAe,zAc,zAa,if_true,if_false,Bool.false_eq_true,Bool.true_eq_false,decide_true,decide_false,reduceCtorEq,zAF,zCz,zCA,zCw,zCx,zCy,zAw,zAr]
 ·exact slow fun h=>absurd h.1 (of_decide_eq_false h0)
 cases h19:decide (l.length<19) <;> simp only[zAq,Bool.not_true,Bool.not_false,zAl,zAo,zAe,zAc,zAa,if_true,if_false,Bool.false_eq_true,Bool.true_eq_false,decide_true,decide_false,reduceCtorEq,zAF,zCz,zCA,zCw,zCx,zCy,zAw,zAr]
 ·exact slow fun h=>absurd h.2 (of_decide_eq_false h19)
 have h0:=of_decide_eq_true h0
 have h19:=of_decide_eq_true h19
 obtain⟨x,r,rfl⟩:∃ x r,l=x :: r:=by cases l with
  | nil=>simp at h0
  | cons x r=>exact⟨x,r,rfl⟩
 have hi:ixT (str (x :: r)) (.int .i64 0)=some (.int .u8 x.toNat):=zI4 (i:=0) rfl
 have hs:slT (str (x :: r)) (some (.int .i64 1)) none=some (str r):=zSM (l:=x :: r) (o:=1) (by simp)
 have sg:∀ m,x :: r=zEZ m->isD x:=fun m e=>zOa m x (by rw[<- e];simp)
 refine zLf (fun t0 _ h=>(∃ l2:List UInt8,t0=str l2/\l2.length<19/\∀ m,x :: r=zEZ m->l2=x :: r)/\H=h) (fun k hk=>?_) ?_
 ·simp only[hi,zAa,zAi,zA9]
  have hr:r.length<19:=by simp at h19;omega
  have e3:zAh .no .lss (.int .i64 (r.length:Nat)) (.int .i64 1)=some (.bool (decide (r.length<1))):=by
   rw[zAi];simp only[zA9];congr 2;rw[decide_eq_decide];omega
  have hbad:∀ c:Nat,c<48->(x.toNat:Int)=c->∀ m,x :: r=zEZ m->False:=fun c hc hx m e=>by
   have:=sg m e;unfold isD at this;omega
  cases h45:((x.toNat:Int) == 45) <;> simp only[zAq,Bool.not_true,Bool.not_false,zAl,zAo,zAe,zAc,zAa,if_true,if_false,Bool.false_eq_true,Bool.true_eq_false,decide_true,decide_false,reduceCtorEq,zAF,zCz,zCA,zCw,zCx,zCy,zAw,zAr]
  ·cases h43:((x.toNat:Int) == 43) <;> simp only[zAq,Bool.not_true,Bool.not_false,zAl,zAo,zAe,zAc,zAa,if_true,if_false,Bool.false_eq_true,Bool.true_eq_false,decide_true,decide_false,reduceCtorEq,zAF,zCz,zCA,zCw,zCx,zCy,zAw,zAr]
   ·exact hk _ _ _ ⟨⟨_,rfl,h19,fun _ _=>rfl⟩,rfl⟩
   ·have h43:=eq_of_beq h43
    simp only[hs,zDU,e3,zAq,Bool.not_true,Bool.not_false,zAl,zAo,zAe,zAc,zAa,if_true,if_false,Bool.false_eq_true,Bool.true_eq_false,decide_true,decide_false,reduceCtorEq,zAF,zCz,zCA,zCw,zCx,zCy,zAw,zAr]
    cases h1:decide (r.length<1) <;> simp only[zAq,Bool.not_true,Bool.not_false,zAl,zAo,zAe,zAc,zAa,if_true,if_false,Bool.false_eq_true,Bool.true_eq_false,decide_true,decide_false,reduceCtorEq,zAF,zCz,zCA,zCw,zCx,zCy,zAw,zAr]
    ·exact hk _ _ _ ⟨⟨_,rfl,hr,fun m e=>(hbad 43 (by omega) h43 m e).elim⟩,rfl⟩
    ·rw[zH2,zAa]
     exact⟨⟨0,_,rfl,.inr (.inr rfl),fun m _ e=>(hbad 43 (by omega) h43 m e).elim⟩,Keep.refl⟩
  ·have h45:=eq_of_beq h45
   simp only[hs,zDU,e3,zAq,Bool.not_true,Bool.not_false,zAl,zAo,zAe,zAc,zAa,if_true,if_false,Bool.false_eq_true,Bool.true_eq_false,decide_true,decide_false,reduceCtorEq,zAF,zCz,zCA,zCw,zCx,zCy,zAw,zAr]
   cases h1:decide (r.length<1) <;> simp only[zAq,Bool.not_true,Bool.not_false,zAl,zAo,zAe,zAc,zAa,if_true,if_false,Bool.false_eq_true,Bool.true_eq_false,decide_true,decide_false,reduceCtorEq,zAF,zCz,zCA,zCw,zCx,zCy,zAw,zAr]
   ·exact hk _ _ _ ⟨⟨_,rfl,hr,fun m e=>(hbad 45 (by omega) h45 m e).elim⟩,rfl⟩
   ·rw[zH2,zAa]
    exact⟨⟨0,_,rfl,.inr (.inr rfl),fun m _ e=>(hbad 45 (by omega) h45 m e).elim⟩,Keep.refl⟩
 rintro _ _ _ ⟨⟨l2,rfl,hl2,hsame⟩,rfl⟩
 refine zLf (fun t6 _ h=>t6 = .int .i64 (zXM l2:Nat)/\Keep (fun _=>False) H h) (fun k23 hk23=>?_) ?_
 ·refine zAdP (by omega) fun v h1 hv k1=>?_
  simp only[hv.len,zAa]
  refine zTf (fun t6 t49 h=>∃ i:Nat,i<=l2.length/\t49 = .int .i64 (i:Nat)/\t6 = .int .i64 (zXM (l2.take i):Nat)/\(∀ y ∈ l2.take i,isD y)/\h1=h) (fun _ u _=>match u with | .int _ t=>l2.length - t.toNat | _=>0) ⟨0,Nat.zero_le _,rfl,rfl,by simp,rfl⟩ ?_
  rintro _ _ _ ⟨i,hi,rfl,rfl,hD,rfl⟩ k hk
  have elt:zAh .no .lss (.int .i64 (i:Nat)) (.int .i64 (l2.length:Nat))=some (.bool (decide (i<l2.length))):=by
   rw[zAi];simp only[zA9];congr 2;rw[decide_eq_decide];omega
  rw[elt,zAa,zAc]
  by_cases hlt:i<l2.length
  ·rw[if_pos (by simpa using hlt)]
   have hg:l2[i]? = some l2[i]:=List.getElem?_eq_getElem hlt
   generalize l2[i]=y at hg
   obtain⟨p,hix,hld,_⟩:=hv.at hg
   have hmem:y ∈ l2:=List.mem_of_getElem? hg
   have htk:l2.take (i+1)=l2.take i++[y]:=by rw[List.take_add_one,hg];rfl
   simp only[hix,hld,zAa,zAi,zA9]
   have hw:IntKind.u8.wrap ((y.toNat:Int) - 48)=if 48<=y.toNat then (y.toNat:Int) - 48 else (y.toNat:Int)+208:=by
    have:=y.toNat_lt
    simp only[IntKind.wrap,IntKind.bits,IntKind.signed]
    simp
    split <;> omega
   have hyl:=y.toNat_lt
   by_cases hd:isD y
   ·have hd':=hd
    unfold isD at hd'
    have hwe:IntKind.u8.wrap ((y.toNat:Int) - 48)=((y.toNat - 48:Nat):Int):=by rw[hw,if_pos hd'.1];omega
    have hng:¬ (((y.toNat - 48:Nat):Int) > 9):=by omega
    have hvl:=zAdQ hD
    have hp:(10:Nat) ^ (l2.take i).length<=10 ^ 17:=Nat.pow_le_pow_right (by omega) (by simp;omega)
    have w1:IntKind.i64.wrap (((zXM (l2.take i):Nat):Int) * 10)=((zXM (l2.take i) * 10:Nat):Int):=by rw[zAM] <;> omega
    have w2:IntKind.i64.wrap ((y.toNat - 48:Nat):Int)=((y.toNat - 48:Nat):Int):=by rw[zAM] <;> omega
    have w3:IntKind.i64.wrap (((zXM (l2.take i) * 10:Nat):Int)+((y.toNat - 48:Nat):Int))=((zXM (l2.take (i+1)):Nat):Int):=by
     rw[htk,zTX,zAM] <;> omega
    have w4:IntKind.i64.wrap ((i:Int)+1)=(i+1:Nat):=by rw[zAM] <;> omega
    simp only[hwe,decide_eq_false hng,zAq,Bool.not_true,Bool.not_false,zAl,zAo,zAe,zAc,zAa,if_true,if_false,Bool.false_eq_true,Bool.true_eq_false,decide_true,decide_false,reduceCtorEq,zAF,zCz,zCA,zCw,zCx,zCy,zAw,zAr,zDr,w1,w2,zAi,zA9,w3,w4]
    refine hk _ _ _ ⟨i+1,by omega,rfl,rfl,?_,rfl⟩ (by show l2.length - (i+1)<l2.length - i;omega)
    intro z hz
    rw[htk]at hz
    rcases List.mem_append.1 hz with hz | hz
    ·exact hD z hz
    ·obtain rfl:z=y:=by simpa using hz
     exact hd
   ·have hg9:IntKind.u8.wrap ((y.toNat:Int) - 48) > 9:=by
     rw[hw];unfold isD at hd;split <;> omega
    rw[decide_eq_true hg9]
    simp only[zAq,Bool.not_true,Bool.not_false,zAl,zAo,zAe,zAc,zAa,if_true,if_false,Bool.false_eq_true,Bool.true_eq_false,decide_true,decide_false,reduceCtorEq,zAF,zCz,zCA,zCw,zCx,zCy,zAw,zAr]
    rw[zH2,zAa]
    refine⟨⟨0,_,rfl,.inr (.inr rfl),fun m _ e=>?_⟩,k1⟩
    have:=zOa m y (by rw[<- e,<- hsame m e];exact hmem)
    exact absurd this hd
  ·rw[if_neg (by simpa using hlt)]
   rw[List.take_of_length_le (by omega)]
   exact hk23 _ _ _ ⟨rfl,k1⟩
 rintro _ _ h4 ⟨rfl,k4⟩
 simp only[hi,zAa,zAi,zA9]
 cases h45:((x.toNat:Int) == 45) <;> simp only[zAq,Bool.not_true,Bool.not_false,zAl,zAo,zAe,zAc,zAa,if_true,if_false,Bool.false_eq_true,Bool.true_eq_false,decide_true,decide_false,reduceCtorEq,zAF,zCz,zCA,zCw,zCx,zCy,zAw,zAr]
 ·refine⟨⟨_,_,rfl,.inl rfl,fun m hm e=>?_⟩,k4⟩
  rw[hsame m e,e,zSJ]
 ·have h45:=eq_of_beq h45
  simp only[unV,zAa]
  refine⟨⟨_,_,rfl,.inl rfl,fun m hm e=>?_⟩,k4⟩
  have:=sg m e
  unfold isD at this;omega
theorem zAfG {H:zAd}{l:List UInt8}(hE:zAbj H)(hl:l.length<=1048576):zAg prg zKO [str l] H fun u H'=>(∃ n e,u = .tuple #[.int .i64 n,e]/\zSK l n)/\Keep (fun _=>False) H H':=by
 apply zMQ
 unfold zMP
 refine zAk (zAdR hl) ?_
 rintro _ h1 ⟨⟨n,e,rfl,he,hn⟩,k1⟩
 rcases he with rfl | rfl | rfl
 ·simp only[zVc,zAq,Bool.not_true,Bool.not_false,zAl,zAo,zAe,zAc,zAa,if_true,if_false,Bool.false_eq_true,Bool.true_eq_false,decide_true,decide_false,reduceCtorEq,zAF,zCz,zCA,zCw,zCx,zCy,zAw,zAr]
  exact⟨⟨n,_,rfl,hn⟩,k1⟩
 ·simp only[zSN,zAq,Bool.not_true,Bool.not_false,zAl,zAo,zAe,zAc,zAa,if_true,if_false,Bool.false_eq_true,Bool.true_eq_false,decide_true,decide_false,reduceCtorEq,zAF,zCz,zCA,zCw,zCx,zCy,zAw,zAr]
  refine(zAk (zT1 (a:=[65,116,111,105]) (hE.keep k1 fun _ h=>h.elim) hl (.inl rfl)) ?_)
  intro u h2 k2
  exact⟨⟨n,u,rfl,hn⟩,k1.trans k2⟩
 ·simp only[zSN,zAq,Bool.not_true,Bool.not_false,zAl,zAo,zAe,zAc,zAa,if_true,if_false,Bool.false_eq_true,Bool.true_eq_false,decide_true,decide_false,reduceCtorEq,zAF,zCz,zCA,zCw,zCx,zCy,zAw,zAr]
  refine(zAk (zT1 (a:=[65,116,111,105]) (hE.keep k1 fun _ h=>h.elim) hl (.inr rfl)) ?_)
  intro u h2 k2
  exact⟨⟨n,u,rfl,hn⟩,k1.trans k2⟩
theorem zAdS:zAB prg zFy=some [Value.int .i64 0].toArray:=by kernel_rfl
theorem zAha:zAB prg zGd=some [Value.int .i64 0].toArray:=by kernel_rfl
theorem zLu {c:UInt8}:∀ {l x:List UInt8},x ∈ zBR c l->x.length<=l.length
 | [],x,h=>by simp[zBR]at h;subst h;simp
 | y :: l,x,h=>by
  rw[zBR]at h
  split at h
  ·rcases List.mem_cons.1 h with rfl | h
   ·simp
   ·have:=zLu h;simp;omega
  ·split at h
   ·obtain rfl:x=[y]:=by simpa using h
    simp
   ·rename_i h' t he
    rcases List.mem_cons.1 h with rfl | h
    ·have:=zLu (c:=c) (l:=l) (x:=h') (by rw[he];simp)
     simp;omega
    ·have:=zLu (c:=c) (l:=l) (x:=x) (by rw[he];simp[h])
     simp;omega
theorem zWh {c:UInt8}{l:List UInt8}:(zSI c l).length<=l.length:=by
 unfold zSI
 have:=congrArg List.length (List.takeWhile_append_dropWhile (p:=(· != c)) (l:=l))
 rw[List.length_append]at this;omega
theorem zAbl {c:UInt8}{l:List UInt8}:(zUF c l).length<=l.length:=by
 unfold zUF
 have:=congrArg List.length (List.takeWhile_append_dropWhile (p:=(· != c)) (l:=l))
 rw[List.length_append]at this
 rw[List.length_drop];omega
def zAcw (s:List UInt8)(u:Value):Prop :=
 (∃ v:Ver,v.wf/\zEX v=true/\zFH v=s/\u = .tuple #[.agg (zCt v).toArray,.int .i64 0]) \/
 ((∀ v:Ver,v.p.length=3->zEX v=true->zFH v≠s)/\u = .tuple #[.agg (zCt zB2).toArray,.int .i64 10])
structure zAeZ (H:zAd)(q2 q3 q4 q8:Nat)(s:List UInt8)(j:Nat)(h:zAd):Prop where
 r:At h q2 (zCt zB2)
 e:At h q3 [.int .i64 0]
 i:At h q8 [.int .i64 (j:Nat)]
 le:j<=3
 v:∃ v:Ver,v.wf/\At h q4 (zCt v)/\v.pre=zUF 45 s/\∀ (i:Nat) (l:List UInt8),i<j->(zBR 46 (zSI 45 s))[i]? = some l->∃ n,v.p[i]? = some n/\zSK l n
 k:Keep (fun _=>False) H h
theorem zAeZ.keep {H:zAd}{q2 q3 q4 q8:Nat}{s:List UInt8}{j:Nat}{h h':zAd}{S:Nat->Prop}(p:zAeZ H q2 q3 q4 q8 s j h)(k:Keep S h h')(hs:∀ b,S b->H.size<=b/\b≠q2/\b≠q3/\b≠q4/\b≠q8):zAeZ H q2 q3 q4 q8 s j h':=by
 obtain⟨v,h1,h2,h3⟩:=p.v
 exact⟨p.r.keep k fun h=>(hs _ h).2.1 rfl,p.e.keep k fun h=>(hs _ h).2.2.1 rfl,p.i.keep k fun h=>(hs _ h).2.2.2.2 rfl,p.le,⟨v,h1,h2.keep k fun h=>(hs _ h).2.2.2.1 rfl,h3⟩,p.k.fresh k fun b h=>(hs b h).1⟩
theorem zAdT {v:Ver}(hv:v.wf){j:Nat}{n:Int}(hj:j<3):(zCt v).set j (.int .i64 n)=zCt ⟨v.p.set j n,v.pre⟩:=by
 unfold zCt
 rw[List.set_append_left _ _ (by simp[hv.p3];exact hj),zPl]
theorem zSP {n0:Nat}{h:zAd}{k:zAd->Prop}(hk:∀ h',zL0 n0 h h'->k h'):Mcl n0 h k:=hk
theorem At.closed {n0:Nat}{h h':zAd}{q:Nat}{cs:List Value}(a:At h q cs)(c:zL0 n0 h h'):At h' q cs:=by
 obtain⟨T,a⟩:=a
 exact⟨T,c.2.2 _ _ a fun ds e=>by cases e⟩
theorem zFI {H h h':zAd}(k:Keep (fun _=>False) H h)(c:zL0 H.size h h'):Keep (fun _=>False) H h' :=
 ⟨by rw[c.1];exact k.1,fun i hi _=>by rw[c.2.1 i hi,k.2 i hi id]⟩
set_option maxHeartbeats 1000000 in
theorem zAdU {H:zAd}{s:List UInt8}(hE:zAbj H)(hT:zTW H)(hl:s.length<=1048576):zAg prg zJP [str s] H fun u H'=>zAcw s u/\Keep (fun _=>False) H H':=by
 apply zMi
 unfold zL4
 simp only[zAs,zAiy,zAdS,zAha]
 generalize hH1:H.push (.cells (zCt ⟨[0,0,0],[]⟩).toArray zAn (0,0))=H1
 have k1:Keep (fun _=>False) H H1:=by rw[<- hH1];exact Keep.push
 have a1:At H1 H.size (zCt zB2):=by rw[<- hH1];exact At.push
 have s1:H1.size=H.size+1:=by rw[<- hH1];simp
 generalize hH2:H1.push (.cells [Value.int .i64 0].toArray zFy (0,0))=H2
 have k2:Keep (fun _=>False) H1 H2:=by rw[<- hH2];exact Keep.push
 have e2:At H2 H1.size [.int .i64 0]:=by rw[<- hH2];exact At.push
 have s2:H2.size=H1.size+1:=by rw[<- hH2];simp
 generalize hH3:H2.push (.cells (zCt ⟨[0,0,0],[]⟩).toArray zAn (0,0))=H3
 have k3:Keep (fun _=>False) H2 H3:=by rw[<- hH3];exact Keep.push
 have b3:At H3 H2.size (zCt zB2):=by rw[<- hH3];exact At.push
 have s3:H3.size=H2.size+1:=by rw[<- hH3];simp
 refine zAk (zAg9 (by omega)) ?_
 rintro _ _ ⟨⟨bc,rfl⟩,rfl⟩
 obtain⟨h5,st5,b5,k5⟩:=b3.st1 (i:=3) (v:=str (zUF 45 s)) (by rw[zBD zEM];omega) rfl
 have hb5:(zCt zB2).set 3 (str (zUF 45 s))=zCt ⟨[0,0,0],zUF 45 s⟩:=rfl
 rw[hb5]at b5
 have g5:=k5.1
 simp only[zCw,zCx,zCy,zAa,zAx,Nat.zero_add,st5,zAm]
 generalize hH6:h5.push (.cells [Value.int .i64 0].toArray zGd (0,0))=h6
 have k6:Keep (fun _=>False) h5 h6:=by rw[<- hH6];exact Keep.push
 have i6:At h6 h5.size [.int .i64 0]:=by rw[<- hH6];exact At.push
 have s6:h6.size=h5.size+1:=by rw[<- hH6];simp
 obtain⟨h7,st7,i7,k7⟩:=i6.st1 (i:=0) (v := .int .i64 0) (by simp) rfl
 have g7:=k7.1
 rw[st7,zAm]
 refine zAk zR3 ?_
 rintro _ h8 ⟨qs,qp,qn,rfl,hst,hq,k8⟩
 have g8:=k8.1
 have hcl:=zAbl (c:=45) (l:=s)
 have k05:Keep (fun _=>False) H h5:=(k1.trans (k2.trans k3)).fresh k5 fun b hb=>by omega
 have k07:Keep (fun _=>False) H h7:=(k05.trans k6).fresh k7 fun b hb=>by omega
 have k08:=k07.trans k8
 have k18:∀ {q cs},q≠H2.size->q≠h5.size->At H3 q cs->At h8 q cs:=fun h1 h2 a=>(((a.keep k5 h1).keep k6 id).keep k7 h2).keep k8 id
 have inv0:zAeZ H H.size H1.size H2.size h5.size s 0 h8 :=
  ⟨k18 (by omega) (by omega) ((a1.keep k2 id).keep k3 id),k18 (by omega) (by omega) (e2.keep k3 id),i7.keep k8 id,by omega,
   ⟨⟨[0,0,0],zUF 45 s⟩,⟨rfl,by show(zUF 45 s).length<=_;omega⟩,((b5.keep k6 id).keep k7 (by omega)).keep k8 id,rfl,fun i l hi=>by omega⟩,k08⟩
 have hne:∀ b,(b=H.size\/b=H1.size\/b=H2.size\/b=h5.size)->H.size<=b/\b<h8.size/\¬ (b=qs\/b=qp\/b=qn):=fun b hb=>by
  refine⟨by omega,by omega,fun hbq=>?_⟩
  have:=hq b hbq
  omega
 have hpl:∀ x ∈ zBR 46 (zSI 45 s),x.length<=1048576:=fun x hx=>by
  have:=zLu hx;have:=zWh (c:=45) (l:=s);omega
 refine range_i (xs:=(zBR 46 (zSI 45 s)).map fun x=>[str x]) (S:=fun b=>b=qs\/b=qp\/b=qn) (W:=fun b=>b=H.size\/b=H1.size\/b=H2.size\/b=h5.size) (St:=zOb qs qp qn (zSI 45 s) 46)
  (zR2 (by have:=zWh (c:=45) (l:=s);omega)) (fun o o'=>?_) k08.1
  (zAeZ H H.size H1.size H2.size h5.size s) (fun c h=>c = .ret/\At h H.size (zCt zB2)/\At h H1.size [.int .i64 10]/\3<(zBR 46 (zSI 45 s)).length/\Keep (fun _=>False) H h) inv0
  (fun i h h' hI k=>hI.keep k fun b hb=>?_) (fun c h h' hX k=>?_) (fun b hb=>(hq b hb).2) (fun b hb=>⟨?_,?_,(hne b hb).2.2⟩) ?_ ?_ ?_
 ·have kp:Keep (fun _=>False) h8 ((h8.push o).push o'):=Keep.push.trans Keep.push
  exact⟨hst.s.keep kp id,hst.p.keep kp id,hst.n.keep kp id,hst.ne⟩
 ·rcases hb with hb | rfl | rfl
  ·have:=hq b hb
   refine⟨by omega,?_,?_,?_,?_⟩ <;> (intro e;omega)
  ·refine⟨by omega,?_,?_,?_,?_⟩ <;> (intro e;omega)
  ·refine⟨by omega,?_,?_,?_,?_⟩ <;> (intro e;omega)
 ·obtain⟨rfl,x1,x2,x3,x4⟩:=hX
  have nb:∀ b,(b=qs\/b=qp\/b=qn)\/b=h8.size\/b=h8.size+1->H.size<=b/\b≠H.size/\b≠H1.size:=fun b hb=>by
   rcases hb with hb | rfl | rfl
   ·have:=hq b hb;omega
   ·omega
   ·omega
  exact⟨rfl,x1.keep k fun hb=>(nb _ hb).2.1 rfl,x2.keep k fun hb=>(nb _ hb).2.2 rfl,x3,x4.fresh k fun b hb=>(nb b hb).1⟩
 ·have:=(hne b hb).2.1;omega
 ·have:=(hne b hb).2.1;omega
 ·intro j x h r hx hI hloop hready K hN hEx
  obtain⟨y,hy,rfl⟩:∃ y,(zBR 46 (zSI 45 s))[j]? = some y/\x=[str y]:=by
   rw[List.getElem?_map]at hx
   obtain⟨y,h1,h2⟩:=Option.map_eq_some_iff.1 hx
   exact⟨y,h1,h2.symm⟩
  refine⟨rfl,r,hloop,hready,?_⟩
  generalize hhb:h.setIfInBounds (h8.size+1) (.loop { r with state := .busy })=hb at *
  have kb:Keep (· = h8.size+1) h hb:=by rw[<- hhb];exact Keep.set rfl
  have hI:=hI.keep kb fun b hb=>by subst hb;refine⟨by omega,?_,?_,?_,?_⟩ <;> (intro e;omega)
  obtain⟨v,hv,hav,hpre,hpt⟩:=hI.v
  have d8:=hI.i.ld (i:=0) rfl
  have hle:=hI.le
  have e3:zAh .no .eql (.int .i64 (j:Nat)) (.int .i64 3)=some (.bool (decide (j=3))):=by
   rw[zAi];simp only[zA9];congr 2;rw[Bool.eq_iff_iff];simp;omega
  simp only[d8,e3,zAa,zAc]
  by_cases hj:j=3
  ·rw[if_pos (by simpa using hj)]
   obtain⟨h15,st15,a15,k15⟩:=hI.r.st (n:=4) (ds:=zCt zB2) (zBD zEM) (zBD zEM) zIB
   have e15:=hI.e.keep k15 (show ¬ H1.size=H.size by omega)
   obtain⟨h16,st16,e16,k16⟩:=e15.st1 (i:=0) (v := .int .i64 10) (by simp) rfl
   simp only[zAg8,zAa,st15,st16,zAm]
   have kk:Keep (fun b=>b=H.size\/b=H1.size\/b=H2.size\/b=h5.size) hb h16:=(k15.mono fun b _ h => .inl h).trans (k16.mono fun b _ h => .inr (.inl h))
   refine hEx _ _ kk ⟨rfl,a15.keep k16 (by omega),e16,?_,(hI.k.fresh k15 fun b hb=>by omega).fresh k16 fun b hb=>by omega⟩
   have:=(List.getElem?_eq_some_iff.1 hy).1;omega
  ·rw[if_neg (by simpa using hj)]
   have hj3:j<3:=by omega
   have hyl:=hpl y (List.mem_of_getElem? hy)
   refine zAk (zAfG (hE.keep hI.k fun _ h=>h.elim) hyl) ?_
   rintro _ h17 ⟨⟨n,e,rfl,hn⟩,k17⟩
   have hI17:=hI.keep k17 fun _ h=>h.elim
   have d17:=hI17.i.ld (i:=0) rfl
   have a17:=hav.keep k17 id
   have hix:ixA 3 1 (Ptr H2.size 0) (.int .i64 (j:Nat))=some (Ptr H2.size j):=zPe hj3
   obtain⟨h18,st18,a18,k18'⟩:=a17.st1 (i:=j) (v := .int .i64 n) (by rw[zBD hv];omega) rfl
   rw[zAdT hv hj3]at a18
   have i18:=hI17.i.keep k18' (show ¬ h5.size=H2.size by omega)
   have d18:=i18.ld (i:=0) rfl
   obtain⟨h19,st19,i19,k19⟩:=i18.st1 (i:=0) (v := .int .i64 ((j+1:Nat):Int)) (by simp) rfl
   have hadd:zAh .no .add (.int .i64 (j:Nat)) (.int .i64 1)=some (.int .i64 ((j+1:Nat):Int)):=zAG (by omega)
   simp only[d17,zAx,Nat.zero_add,hix,st18,zAm,d18,hadd,st19,zAq,Bool.not_true,Bool.not_false,zAl,zAo,zAe,zAc,zAa,if_true,if_false,Bool.false_eq_true,Bool.true_eq_false,decide_true,decide_false,reduceCtorEq,zAF,zCz,zCA,zCw,zCx,zCy,zAw,zAr]
   have kW:Keep (fun b=>b=H.size\/b=H1.size\/b=H2.size\/b=h5.size) hb h19 :=
    (k17.mono fun b _ h=>h.elim).trans ((k18'.mono fun b _ h => .inr (.inr (.inl h))).trans (k19.mono fun b _ h => .inr (.inr (.inr h))))
   refine hN _ kW ⟨(hI17.r.keep k18' (by omega)).keep k19 (by omega),(hI17.e.keep k18' (by omega)).keep k19 (by omega),i19,by omega,⟨⟨v.p.set j n,v.pre⟩,⟨by simpa using hv.p3,hv.pre⟩,a18.keep k19 (by omega),hpre,fun i l hi hil=>?_⟩,(hI17.k.fresh k18' fun b hb=>by omega).fresh k19 fun b hb=>by omega⟩
   show ∃ m,(v.p.set j n)[i]? = some m/\zSK l m
   by_cases hij:i=j
   ·subst hij
    rw[hy]at hil
    cases hil
    have:=hv.p3
    exact⟨n,by rw[List.getElem?_set_self (by omega)],hn⟩
   ·obtain⟨m,h1,h2⟩:=hpt i l (by omega) hil
    exact⟨m,by rw[List.getElem?_set_ne (Ne.symm hij)];exact h1,h2⟩
 ·intro h hsz hI
  rw[List.length_map]at hI
  obtain⟨v,hv,hav,hpre,hpt⟩:=hI.v
  have raw:zAh5 s v:=⟨hv.p3,hpre,fun i l hil=>hpt i l (List.getElem?_eq_some_iff.1 hil).1 hil⟩
  refine .inl ⟨rfl,?_⟩
  have e0:=fun q=>zBX (q:=q) (a:=s) (b:=[])
  have fail:∀ h,zAeZ H H.size H1.size H2.size h5.size s (zBR 46 (zSI 45 s)).length h->(∀ v:Ver,v.p.length=3->zEX v=true->zFH v≠s) ->
    Mpu (zA4 prg zAn []) fun t42=>Mwr (stN 4 h (Ptr H.size 0) t42) fun h23=>Mwr (st1 h23 (Ptr H1.size 0) (.int .i64 10)) fun h24=>Mcl H.size h24 fun h25=>Mpu (ldN 4 h25 (Ptr H.size 0)) fun r26=>Mpu (ld1 h25 (Ptr H1.size 0)) fun r27=>zAcw s (.tuple #[r26,r27])/\Keep (fun _=>False) H h25:=by
   intro h hI hno
   obtain⟨h15,st15,a15,k15⟩:=hI.r.st (n:=4) (ds:=zCt zB2) (zBD zEM) (zBD zEM) zIB
   have e15:=hI.e.keep k15 (show ¬ H1.size=H.size by omega)
   obtain⟨h16,st16,e16,k16⟩:=e15.st1 (i:=0) (v := .int .i64 10) (by simp) rfl
   have a16:=a15.keep k16 (show ¬ H.size=H1.size by omega)
   simp only[zAg8,zAa,st15,st16,zAm]
   refine zSP fun h' hc=>?_
   have a':=a16.closed hc
   have e':=e16.closed hc
   rw[zM1 a' zEM,zAa,e'.ld (i:=0) rfl,zAa]
   exact⟨.inr ⟨hno,rfl⟩,zFI ((hI.k.fresh k15 fun b hb=>by omega).fresh k16 fun b hb=>by omega) hc⟩
  cases hse:decide (s=[])
  ·have hsne:=of_decide_eq_false hse
   simp only[e0,hse,zM1 hav hv,zAq,Bool.not_true,Bool.not_false,zAl,zAo,zAe,zAc,zAa,if_true,if_false,Bool.false_eq_true,Bool.true_eq_false,decide_true,decide_false,reduceCtorEq,zAF,zCz,zCA,zCw,zCx,zCy,zAw,zAr]
   refine zAk (zU9 hv (hT.keep hI.k fun _ h=>h.elim)) ?_
   rintro _ h21 ⟨rfl,k21⟩
   have hI21:=hI.keep k21 fun _ h=>h.elim
   have av21:=hav.keep k21 id
   have en:=fun q=>zSL (q:=q) (a:=zFH v) (b:=s)
   cases hsh:decide (zFH v=s)
   ·have hshne:=of_decide_eq_false hsh
    simp only[en,hsh,zAq,Bool.not_true,Bool.not_false,zAl,zAo,zAe,zAc,zAa,if_true,if_false,Bool.false_eq_true,Bool.true_eq_false,decide_true,decide_false,reduceCtorEq,zAF,zCz,zCA,zCw,zCx,zCy,zAw,zAr]
    exact fail h21 hI21 fun w hw hok hs=>hshne (by rw[zWa hw hok hs raw];exact hs)
   ·have hsh':=of_decide_eq_true hsh
    have hok:zEX v=true:=by
     cases hok:zEX v with
     | true=>rfl
     | false=>exact absurd (by rw[<- hsh'];unfold zFH;rw[hok];rfl) hsne
    obtain⟨h15,st15,a15,k15⟩:=hI21.r.st (n:=4) (ds:=zCt v) (zBD zEM) (zBD hv) zIB
    have e15:=hI21.e.keep k15 (show ¬ H1.size=H.size by omega)
    obtain⟨h16,st16,e16,k16⟩:=e15.st1 (i:=0) (v := .int .i64 0) (by simp) rfl
    have a16:=a15.keep k16 (show ¬ H.size=H1.size by omega)
    simp only[en,hsh,zAq,Bool.not_true,Bool.not_false,zAl,zAo,zAe,zAc,zAa,if_true,if_false,Bool.false_eq_true,Bool.true_eq_false,decide_true,decide_false,reduceCtorEq,zAF,zCz,zCA,zCw,zCx,zCy,zAw,zAr,zM1 av21 hv,st15,st16,zAm]
    refine zSP fun h' hc=>?_
    have a':=a16.closed hc
    have e':=e16.closed hc
    rw[zM1 a' hv,zAa,e'.ld (i:=0) rfl,zAa]
    exact⟨.inl ⟨v,hv,hok,hsh',rfl⟩,zFI ((hI21.k.fresh k15 fun b hb=>by omega).fresh k16 fun b hb=>by omega) hc⟩
  ·have hs0:=of_decide_eq_true hse
   simp only[e0,hse,zAq,Bool.not_true,Bool.not_false,zAl,zAo,zAe,zAc,zAa,if_true,if_false,Bool.false_eq_true,Bool.true_eq_false,decide_true,decide_false,reduceCtorEq,zAF,zCz,zCA,zCw,zCx,zCy,zAw,zAr]
   exact fail h hI fun w hw hok hs=>zAbc hw hok (by rw[hs];exact hs0)
 ·rintro c h hsz ⟨rfl,x1,x2,x3,x4⟩
  refine .inr ⟨rfl,zSP fun h' hc=>?_⟩
  have a':=x1.closed hc
  have e':=x2.closed hc
  rw[zM1 a' zEM,zAa,e'.ld (i:=0) rfl,zAa]
  refine⟨.inr ⟨fun w hw hok hs=>?_,rfl⟩,zFI x4 hc⟩
  have:=zRx hw hok
  rw[hs]at this;omega
def zXN:List Nat:=List.replicate 3 0++[2]
theorem zYR:eqK prg zAn = .flat zXN:=by kernel_rfl
theorem zSQ {x y:Ver}(hx:x.wf)(hy:y.wf):zA1 zXN (zCt x) (zCt y)=some (decide (x=y)):=by
 have h1:zA1 (List.replicate 3 0) (zAP .i64 x.p) (zAP .i64 y.p)=some (decide (x.p=y.p)):=by
  have:=zM0 (k := .i64) (l:=x.p) (m:=y.p) (by rw[hx.p3,hy.p3])
  rwa [hx.p3]at this
 have h2:=zEK (k1:=List.replicate 3 0) (k2:=[2]) (a1:=zAP .i64 x.p) (b1:=zAP .i64 y.p) (a2:=[str x.pre]) (b2:=[str y.pre]) (by simp[hx.p3]) (by simp[hy.p3]) h1 zGP
 unfold zXN zCt
 rw[h2]
 congr 1
 rw[Bool.eq_iff_iff]
 simp only[Bool.and_eq_true,decide_eq_true_eq]
 cases x;cases y;simp
theorem zAbm {x y:Ver}(hx:x.wf)(hy:y.wf):zAh (eqK prg zAn) .eql (.agg (zCt x).toArray) (.agg (zCt y).toArray)=some (.bool (decide (x=y))):=by
 rw[zQD,zYR]
 show(zA1 zXN (zCt x).toArray.toList (zCt y).toArray.toList).map Value.bool=_
 rw[List.toList_toArray,List.toList_toArray,zSQ hx hy];rfl
theorem zAhb {x y:Ver}(hx:x.wf)(hy:y.wf):zAh (eqK prg zAn) .neq (.agg (zCt x).toArray) (.agg (zCt y).toArray)=some (.bool (!decide (x=y))):=by
 rw[zJU,zYR]
 show(zA1 zXN (zCt x).toArray.toList (zCt y).toArray.toList).map (fun b=>Value.bool (!b))=_
 rw[List.toList_toArray,List.toList_toArray,zSQ hx hy];rfl
end Go.Proofs.YticdfkoncnnmmaaGreatDoor
