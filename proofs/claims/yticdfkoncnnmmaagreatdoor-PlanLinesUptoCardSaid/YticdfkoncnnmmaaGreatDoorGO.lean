import Derived.Test.YticdfkoncnnmmaaGreatDoorGU
import Derived.Test.YticdfkoncnnmmaaGreatDoorGI
set_option linter.unusedSimpArgs false
set_option linter.unusedVariables false
set_option maxRecDepth 100000
namespace Go.Proofs.YticdfkoncnnmmaaGreatDoor
open Go.X Go.X.Diff
structure zAeY (H:zAw):Prop where
 syn:∃ T x t f,H[zDs]? = some (.cells #[.iface T x] t f)
 rng:∃ T x t f,H[zDy]? = some (.cells #[.iface T x] t f)
theorem zAeY.keep {S:zA2}{H H':zAw}(h:zAeY H)(k:Keep S H H')(hs:∀ b,S b->NG<=b):zAeY H':=by
 obtain⟨⟨T,x,t,f,h1⟩,⟨T',x',t',f',h2⟩⟩:=h
 exact⟨⟨T,x,t,f,k.at h1 λh=>absurd (hs _ h) (by decide)⟩,⟨T',x',t',f',k.at h2 λh=>absurd (hs _ h) (by decide)⟩⟩
theorem zKm {k:Int}:mkI prg zBJ (.int .i64 k)=some (.iface zBJ (.int .i64 k)):=by
 have h:∃ d,prg.underlying zBJ=some (.int d):=⟨.i64,by kernel_rfl⟩
 obtain⟨d,h⟩:=h
 unfold mkI;rw[h]
theorem zZy:zVq prg zBJ=true:=by kernel_rfl
abbrev err (k:Int):Value := .iface zBJ (.int .i64 k)
theorem zAgm {a b:Int}{lit:Bool}:zAC (.ifc (zVq prg) lit) .eql (err a) (err b)=some (.bool (a == b)):=by
 show((bif Nat.beq zBJ zBJ then (bif zVq prg zBJ then (if IntKind.i64=IntKind.i64 then some (a == b) else none) else none) else some false)).map Value.bool=_
 rw[zZy,zB2];rfl
theorem zAgn {a b:Int}{lit:Bool}:zAC (.ifc (zVq prg) lit) .neq (err a) (err b)=some (.bool (!(a == b))):=by
 show((bif Nat.beq zBJ zBJ then (bif zVq prg zBJ then (if IntKind.i64=IntKind.i64 then some (a == b) else none) else none) else some false)).map (λb=>Value.bool (!b))=_
 rw[zZy,zB2];rfl
theorem zVS {a:Int}{lit:Bool}:zAC (.ifc (zVq prg) lit) .neq (err a) .nilIface=some (.bool true):=rfl
theorem zYn:zAC (.ifc (zVq prg) true) .neq .nilIface .nilIface=some (.bool false):=rfl
theorem zZz {H:zAw}{l:List UInt8}(hl:l.length<=1048576):zAz prg zEc [str l] H λu H'=>u=str l/\Keep zAM H H':=by
 apply zI5
 unfold zG9
 have e0:zAC .no .eql (.int .i64 (l.length:Nat)) (.int .i64 0)=some (.bool (decide (l=[]))):=by
  rw[zAH];simp only[zC3];congr 2;rw[zA4];simp
 simp only[zE5,zAa,e0]
 cases hx:decide (l=[])<;>simp only[zA8,zAe,zAd,zAO,zAT,zAv,zAl,zAa,if_true,if_false,zAb,zAc,decide_true,decide_false,reduceCtorEq,zBQ,zEH,zEI,zEE,zEF,zEG,zBq,zA9]
 rotate_left
 ·rw[of_decide_eq_true hx];exact⟨by trivial,Keep.refl⟩
 have hne:=of_decide_eq_false hx
 have hpos:0<l.length:=List.length_pos_iff.2 hne
 obtain⟨z,hz,hzs⟩:∃ z,zBE prg zCg=some z/\z=#[Value.int .u8 0]:=⟨_,by kernel_rfl,rfl⟩
 have hb:prg.bytesOf zCg=1:=by kernel_rfl
 have hc:prg.cellsOf zCg=1:=by kernel_rfl
 have hi:(prg.info? zCg).isSome=true:=by kernel_rfl
 refine⟨.i64,.i64,l.length,l.length,z,rfl,rfl,zAh _,by rw[hb];omega,by omega,hz,hi,?_⟩
 have hzr:zRN z (l.length*prg.cellsOf zCg)=(zBB (List.replicate l.length 0)).toArray:=by
  rw[hc,zCt,hzs]
  unfold zRN zBB
  apply Array.ext'
  simp only[Array.toList_map,Array.toList_range,List.map_replicate]
  rw[List.eq_replicate_iff]
  refine⟨by simp,λx hx=>?_⟩
  obtain⟨i,_,rfl⟩:=zAo.1 hx
  simp[Nat.mod_one]
 rw[hzr]
 generalize hH1:H.push (.cells (zBB (List.replicate l.length 0)).toArray zCg (0,0))=H1
 have k1:Keep zAM H H1:=by rw[<- hH1];exact Keep.push
 have hq1:H1[H.size]? = some (.cells (zBB (List.replicate l.length 0)).toArray zCg (0,0)):=by rw[<- hH1];exact zCa
 have hcp:=@zAau H1 H.size l.length (List.replicate l.length 0) l (str l) zCg
 rw[List.length_replicate]at hcp
 refine hcp hq1 zAgd (zAh _) ?_
 have hcat:l++(List.replicate l.length (0:UInt8)).drop l.length=l:=by simp
 rw[hcat]
 generalize hH2:H1.setIfInBounds H.size (.cells (zBB l).toArray zCg (0,0))=H2
 have k2:Keep (· = H.size) H1 H2:=by rw[<- hH2];exact Keep.set rfl
 have hq2:H2[H.size]? = some (.cells (zBB l).toArray zCg (0,0)):=by rw[<- hH2];exact zBm hq1
 have hix:ixS 1 (.slice (some ⟨H.size,0,none⟩) l.length l.length) (.int .i64 0)=some (Ptr H.size 0):=by
  simp only[ixS];rw[if_pos ⟨by omega,by omega⟩];rfl
 rw[hix,zAa,zKB,zAa]
 intro w hw
 obtain⟨t,ht,hu⟩:=zAjv
 have hsh:w.shape? H.size=some (zCg,(zBB l).toArray.size):=by simp[World.shape?,hw,hq2]
 refine⟨_,_,Lib.run_unsafeString_row w _ _ _ zCg (by rw[ht];exact hu) zAmi H.size (zBB l).toArray.size hsh l hne (by simp) (by omega) ?_,?_,rfl,?_⟩
 ·intro j x hx
  have hlt:=(zAP.1 hx).1
  have e:(⟨H.size,0,none⟩:Addr).add j=⟨H.size,j,none⟩:=by
   unfold Addr.add;split
   ·rename_i h;subst h;rfl
   ·simp
  rw[e]
  unfold World.cell?
  simp only[hw,hq2]
  simp[zBB,hx]
 ·obtain⟨_,_,h3⟩:=zOw (w:=w) (b:=H.size) (n:=l.length)
  refine⟨?_,?_,?_,h3⟩<;>(unfold World.freeze;split<;>rfl)
 ·obtain⟨h1,h2,_⟩:=zOw (w:=w) (b:=H.size) (n:=l.length)
  rw[hw]at h1 h2
  have k3:Keep (· = H.size) H2 (w.freeze ⟨H.size,0,none⟩ l.length).heap:=⟨Nat.le_of_eq h1.symm,λi _ hn=>h2 i hn⟩
  exact(k1.fresh k2 λb hb=>by omega).fresh k3 λb hb=>by omega
theorem zAeZ:∃ z,zMu prg zEs=some ([(0,1),(1,1),(2,1)],z)/\z.size=3:=⟨#[str [],str [],.nilIface],by kernel_rfl,rfl⟩
theorem zZA {a b:List UInt8}{T:TypeId}{x:Value}:∃ c,zCV prg zEs [(0,str a),(1,str b),(2,.iface T x)]=some (.agg c):=by
 obtain⟨z,hk,hz⟩:=zAeZ
 rw[zIv hk]
 have s1:(Value.cells (str a)).size=1:=rfl
 have s2:(Value.cells (str b)).size=1:=rfl
 have s3:(Value.cells (.iface T x)).size=1:=rfl
 have l1:(spl z 0 (Value.cells (str a))).size=3:=by rw[zKX (by rw[s1,hz];omega),hz]
 have l2:(spl (spl z 0 (Value.cells (str a))) 1 (Value.cells (str b))).size=3:=by rw[zKX (by rw[s2,l1];omega),l1]
 rw[zJa (off:=0) (n:=1) rfl rfl (by omega),zJa (off:=1) (n:=1) rfl rfl (by omega),zJa (off:=2) (n:=1) rfl rfl (by omega),zTG]
 exact⟨_,rfl⟩
theorem zAml {v:Value}:mkI prg zDQ v=some (.iface zDQ v):=by
 have h:∃ d,prg.underlying zDQ=some (.pointer d):=⟨zEs,by kernel_rfl⟩
 obtain⟨d,h⟩:=h
 unfold mkI;rw[h]
theorem zVT {H:zAw}{a l:List UInt8}(hE:zAeY H)(hl:l.length<=1048576):zAz prg zHL [str a,str l] H λu H'=>Keep zAM H H':=by
 apply zL5
 unfold zKc
 obtain⟨T,x,t,f,h1⟩:=hE.syn
 have e0:ld1 H (.pointer (some ⟨zDs,0,none⟩))=some (.iface T x):=zRO (cs:=[.iface T x]) h1 rfl
 rw[e0,zAa]
 refine zAJ (zZz hl) ?_
 rintro _ h ⟨rfl,k⟩
 have e1:ld1 h (.pointer (some ⟨zDs,0,none⟩))=some (.iface T x):=zRO (cs:=[.iface T x]) (k.at h1 id) rfl
 obtain⟨c,hc⟩:=zZA (a:=a) (b:=l) (T:=T) (x:=x)
 simp only[e1,hc,zA8,zAe,zAd,zAO,zAT,zAv,zAl,zAa,if_true,if_false,zAb,zAc,decide_true,decide_false,reduceCtorEq,zBQ,zEH,zEI,zEE,zEF,zEG,zBq,zA9,zBa]
 exact k.trans Keep.push
theorem zW1 {H:zAw}{a l:List UInt8}(hE:zAeY H)(hl:l.length<=1048576):zAz prg zIi [str a,str l] H λu H'=>Keep zAM H H':=by
 apply zMC
 unfold zK8
 obtain⟨T,x,t,f,h1⟩:=hE.rng
 have e0:ld1 H (.pointer (some ⟨zDy,0,none⟩))=some (.iface T x):=zRO (cs:=[.iface T x]) h1 rfl
 rw[e0,zAa]
 refine zAJ (zZz hl) ?_
 rintro _ h ⟨rfl,k⟩
 have e1:ld1 h (.pointer (some ⟨zDy,0,none⟩))=some (.iface T x):=zRO (cs:=[.iface T x]) (k.at h1 id) rfl
 obtain⟨c,hc⟩:=zZA (a:=a) (b:=l) (T:=T) (x:=x)
 simp only[e1,hc,zA8,zAe,zAd,zAO,zAT,zAv,zAl,zAa,if_true,if_false,zAb,zAc,decide_true,decide_false,reduceCtorEq,zBQ,zEH,zEI,zEE,zEF,zEG,zBq,zA9,zBa]
 exact k.trans Keep.push
def zAjH (e:Value):Prop:=e = .nilIface\/e=err 1\/e=err 2
theorem zW2 {H:zAw}{a l:List UInt8}{e:Value}(hE:zAeY H)(hl:l.length<=1048576)(he:e=err 1\/e=err 2) :
  zAz prg zKw [str a,str l,.int .i64 0,.int .i64 0,e] H λu H'=>Keep zAM H H':=by
 apply zN1
 unfold zNi
 rcases he with rfl|rfl
 ·simp only[zKm,zAgm,zA8,zAe,zAd,zAO,zAT,zAv,zAl,zAa,if_true,if_false,zAb,zAc,decide_true,decide_false,reduceCtorEq,zBQ,zEH,zEI,zEE,zEF,zEG,zBq,zA9,show((1:Int) == 2)=false from rfl,show((1:Int) == 1)=true from rfl]
  refine zAJ (zW1 hE hl) ?_
  intro u h k
  simp only[zAml,zA8,zAe,zAd,zAO,zAT,zAv,zAl,zAa,if_true,if_false,zAb,zAc,decide_true,decide_false,reduceCtorEq,zBQ,zEH,zEI,zEE,zEF,zEG,zBq,zA9]
  exact k
 ·simp only[zKm,zAgm,zA8,zAe,zAd,zAO,zAT,zAv,zAl,zAa,if_true,if_false,zAb,zAc,decide_true,decide_false,reduceCtorEq,zBQ,zEH,zEI,zEE,zEF,zEG,zBq,zA9,show((2:Int) == 2)=true from rfl]
  refine zAJ (zVT hE hl) ?_
  intro u h k
  simp only[zAml,zA8,zAe,zAd,zAO,zAT,zAv,zAl,zAa,if_true,if_false,zAb,zAc,decide_true,decide_false,reduceCtorEq,zBQ,zEH,zEI,zEE,zEF,zEG,zBq,zA9]
  exact k
theorem _root_.Go.X.J3_i {body:(Value->Value->zAn)->Prop}{rest:Value->Value->zAn}(I:Value->Value->zAn)(h1:∀ k:Value->Value->zAn,(∀ x y z h,I x y z h->k x y z h)->body k)(h2:∀ x y z h,I x y z h->rest x y z h):J3 body rest := .mk (h1 rest h2)
theorem _root_.Go.X.J4_i {body:(Value->Value->Value->zAn)->Prop}{rest:Value->Value->Value->zAn}(I:Value->Value->Value->zAn)(h1:∀ k:Value->Value->Value->zAn,(∀ x y z t h,I x y z t h->k x y z t h)->body k)(h2:∀ x y z t h,I x y z t h->rest x y z t h):J4 body rest := .mk (h1 rest h2)
theorem zAhM {T:TypeId}{H:zAw}{l:List UInt8}{k:zAn}(hl:l.length<=1099511627776)
  (hk:∀ v h',Sl (· = H.size) h' v l->Keep zAM H h'->k v h'):zAah T H (str l) k:=by
 refine⟨_,rfl,by rw[zI2];omega,λcap h1 h2=>hk _ _ ?_ Keep.push⟩
 rw[zI2]at h1
 refine⟨?_,⟨_,cap,by rw[zI2],by omega,λx hx=>by cases hx;rfl⟩,λb hb=>by obtain⟨rfl,_⟩:=zHP hb;rfl⟩
 refine Bs.mk zCa zI2 (by simp[ByteArray.size]) ?_
 rw[zI2,zBY,Array.toList_append,zBi (by simp),zAs (by simp)]
 simp[zBB]
theorem zSf {H:zAw}{x:Int}:zAz prg zC0 [.int .u8 x] H λu H'=>(∃ y,u = .int .u8 y)/\H=H':=by
 apply zKH
 unfold zIC
 simp only[zAH,zC3,zAa]
 exact⟨⟨_,rfl⟩,by trivial⟩
def PuR (H:zAw)(u:Value)(H':zAw):Prop:=(∃ n e,u = .tuple #[.int .u64 n,e]/\zAjH e)/\Keep zAM H H'
set_option maxHeartbeats 1000000 in
theorem zYo {H:zAw}{l:List UInt8}(hl:l.length<=1048576):zAz prg zFn [str l,.int .i64 10,.int .i64 0] H (PuR H):=by
 apply zI4
 unfold zG8
 have f1:zAC .no .eql (.int .i64 10) (.int .i64 0)=some (.bool false):=rfl
 have f2:zAC .no .leq (.int .i64 2) (.int .i64 10)=some (.bool true):=rfl
 have f3:zAC .no .leq (.int .i64 10) (.int .i64 36)=some (.bool true):=rfl
 have f4:zAC .no .eql (.int .i64 0) (.int .i64 0)=some (.bool true):=rfl
 have f5:zAC .no .eql (.int .i64 10) (.int .i64 10)=some (.bool true):=rfl
 have f6:cvI .u64 (.int .i64 64)=some (.int .u64 64):=rfl
 have f7:zAC .no .shl (.int .u64 1) (.int .u64 64)=some (.int .u64 0):=by kernel_rfl
 have f8:zAC .no .sub (.int .u64 0) (.int .u64 1)=some (.int .u64 18446744073709551615):=by kernel_rfl
 have f9:cvI .u8 (.int .i64 10)=some (.int .u8 10):=rfl
 have f10:cvI .u64 (.int .i64 10)=some (.int .u64 10):=rfl
 have e0:=λq=>zDG (q:=q) (a:=l) (b:=[])
 have bad:∀ (k n:Int) (h:zAw),(k=1\/k=2)->Keep zAM H h->PuR H (.tuple #[.int .u64 n,err k]) h:=λk n h hk kk=>⟨⟨n,_,rfl,by rcases hk with rfl|rfl;exact .inr (.inl rfl);exact .inr (.inr rfl)⟩,kk⟩
 rw[e0,zAa,zAl]
 cases hx:decide (l=[])
 rotate_left
 ·rw[if_pos rfl,zKm,zAa]
  exact bad 2 0 H (.inr rfl) Keep.refl
 rw[if_neg (by decide)]
 simp only[f1,f2,f3,f4,f5,f6,f7,f8,zA8,zAe,zAd,zAO,zAT,zAv,zAl,zAa,if_true,if_false,zAb,zAc,decide_true,decide_false,reduceCtorEq,zBQ,zEH,zEI,zEE,zEF,zEG,zBq,zA9,zAk9]
 refine zAhM (by omega) λv h1 hv k1=>?_
 simp only[hv.len,zAa]
 refine zAl9 (λt12 t13 t101 h=>t12 = .bool false/\(∃ n,t13 = .int .u64 n)/\(∃ i:Nat,i<=l.length/\t101 = .int .i64 (i:Nat))/\h1=h) (λ_ _ u _=>match u with | .int _ t=>l.length-t.toNat|_=>0) ⟨rfl,⟨0,rfl⟩,⟨0,zAA _,rfl⟩,rfl⟩ ?_
 rintro _ _ _ _ ⟨rfl,⟨n,rfl⟩,⟨i,hi,rfl⟩,rfl⟩ k hk
 have elt:zAC .no .lss (.int .i64 (i:Nat)) (.int .i64 (l.length:Nat))=some (.bool (decide (i<l.length))):=by
  rw[zAH];simp only[zC3];congr 2;rw[decide_eq_decide];omega
 rw[elt,zAa,zAl]
 by_cases hlt:i<l.length
 ·rw[if_pos (by simpa using hlt)]
  have hg:l[i]? = some l[i]:=zAj hlt
  generalize l[i]=x at hg
  obtain⟨p,hix,hld,_⟩:=hv.at hg
  simp only[hix,hld,zAa]
  refine J4_i (λt12 t13 _ _ h=>t12 = .bool false/\(∃ n,t13 = .int .u64 n)/\h1=h) (λk25 hk25=>?_) ?_
  rotate_left
  ·rintro _ _ _ _ _ ⟨rfl,⟨m,rfl⟩,rfl⟩
   rw[zBV (by omega),zAa]
   exact hk _ _ _ _ ⟨rfl,⟨m,rfl⟩,⟨i+1,by omega,rfl⟩,rfl⟩ (by show l.length-(i+1)<l.length-i;omega)
  ·refine J4_i (λt12 t16 _ _ h=>t12 = .bool false/\(∃ d,t16 = .int .u8 d)/\h1=h) (λk27 hk27=>?_) ?_
   ·simp only[zAH,zC3,zA8,zAe,zAd,zAO,zAT,zAv,zAl,zAa,if_true,if_false,zAb,zAc,decide_true,decide_false,reduceCtorEq,zBQ,zEH,zEI,zEE,zEF,zEG,zBq,zA9]
    generalize ((x.toNat:Int) == 95)=b1
    have e2:∀ t:Value,zBH (.bool b1) (if b1=true then .bool false else t) (.bool false)=some (.bool false):=λt=>by cases b1<;>rfl
    cases b1<;>simp only[zA8,zAe,zAd,zAO,zAT,zAv,zAl,zAa,if_true,if_false,zAb,zAc,decide_true,decide_false,reduceCtorEq,zBQ,zEH,zEI,zEE,zEF,zEG,zBq,zA9]
    all_goals
     cases h48:decide ((48:Int)<=x.toNat)<;>simp only[zA8,zAe,zAd,zAO,zAT,zAv,zAl,zAa,if_true,if_false,zAb,zAc,decide_true,decide_false,reduceCtorEq,zBQ,zEH,zEI,zEE,zEF,zEG,zBq,zA9]
     ·refine zAJ zSf ?_
      rintro _ _ ⟨⟨y,rfl⟩,rfl⟩
      simp only[zAH,zC3,zA8,zAe,zAd,zAO,zAT,zAv,zAl,zAa,if_true,if_false,zAb,zAc,decide_true,decide_false,reduceCtorEq,zBQ,zEH,zEI,zEE,zEF,zEG,zBq,zA9]
      cases h97:decide ((97:Int)<=y)<;>simp only[zA8,zAe,zAd,zAO,zAT,zAv,zAl,zAa,if_true,if_false,zAb,zAc,decide_true,decide_false,reduceCtorEq,zBQ,zEH,zEI,zEE,zEF,zEG,zBq,zA9]
      ·rw[zKm,zAa];exact bad 2 0 _ (.inr rfl) k1
      ·refine zAJ zSf ?_
       rintro _ _ ⟨⟨z,rfl⟩,rfl⟩
       simp only[zAH,zC3,zA8,zAe,zAd,zAO,zAT,zAv,zAl,zAa,if_true,if_false,zAb,zAc,decide_true,decide_false,reduceCtorEq,zBQ,zEH,zEI,zEE,zEF,zEG,zBq,zA9]
       cases h122:decide (z<=(122:Int))<;>simp only[zA8,zAe,zAd,zAO,zAT,zAv,zAl,zAa,if_true,if_false,zAb,zAc,decide_true,decide_false,reduceCtorEq,zBQ,zEH,zEI,zEE,zEF,zEG,zBq,zA9]
       ·rw[zKm,zAa];exact bad 2 0 _ (.inr rfl) k1
       ·refine zAJ zSf ?_
        rintro _ _ ⟨⟨y2,rfl⟩,rfl⟩
        simp only[zAH,zC3,zA8,zAe,zAd,zAO,zAT,zAv,zAl,zAa,if_true,if_false,zAb,zAc,decide_true,decide_false,reduceCtorEq,zBQ,zEH,zEI,zEE,zEF,zEG,zBq,zA9]
        exact hk27 _ _ _ _ _ ⟨rfl,⟨_,rfl⟩,rfl⟩
     ·cases h57:decide ((x.toNat:Int)<=57)<;>simp only[zA8,zAe,zAd,zAO,zAT,zAv,zAl,zAa,if_true,if_false,zAb,zAc,decide_true,decide_false,reduceCtorEq,zBQ,zEH,zEI,zEE,zEF,zEG,zBq,zA9]
      ·refine zAJ zSf ?_
       rintro _ _ ⟨⟨y,rfl⟩,rfl⟩
       simp only[zAH,zC3,zA8,zAe,zAd,zAO,zAT,zAv,zAl,zAa,if_true,if_false,zAb,zAc,decide_true,decide_false,reduceCtorEq,zBQ,zEH,zEI,zEE,zEF,zEG,zBq,zA9]
       cases h97:decide ((97:Int)<=y)<;>simp only[zA8,zAe,zAd,zAO,zAT,zAv,zAl,zAa,if_true,if_false,zAb,zAc,decide_true,decide_false,reduceCtorEq,zBQ,zEH,zEI,zEE,zEF,zEG,zBq,zA9]
       ·rw[zKm,zAa];exact bad 2 0 _ (.inr rfl) k1
       ·refine zAJ zSf ?_
        rintro _ _ ⟨⟨z,rfl⟩,rfl⟩
        simp only[zAH,zC3,zA8,zAe,zAd,zAO,zAT,zAv,zAl,zAa,if_true,if_false,zAb,zAc,decide_true,decide_false,reduceCtorEq,zBQ,zEH,zEI,zEE,zEF,zEG,zBq,zA9]
        cases h122:decide (z<=(122:Int))<;>simp only[zA8,zAe,zAd,zAO,zAT,zAv,zAl,zAa,if_true,if_false,zAb,zAc,decide_true,decide_false,reduceCtorEq,zBQ,zEH,zEI,zEE,zEF,zEG,zBq,zA9]
        ·rw[zKm,zAa];exact bad 2 0 _ (.inr rfl) k1
        ·refine zAJ zSf ?_
         rintro _ _ ⟨⟨y2,rfl⟩,rfl⟩
         simp only[zAH,zC3,zA8,zAe,zAd,zAO,zAT,zAv,zAl,zAa,if_true,if_false,zAb,zAc,decide_true,decide_false,reduceCtorEq,zBQ,zEH,zEI,zEE,zEF,zEG,zBq,zA9]
         exact hk27 _ _ _ _ _ ⟨rfl,⟨_,rfl⟩,rfl⟩
      ·exact hk27 _ _ _ _ _ ⟨rfl,⟨_,rfl⟩,rfl⟩
   ·rintro _ _ _ _ _ ⟨rfl,⟨d,rfl⟩,rfl⟩
    simp only[f9,f10,zAH,zC3,zA8,zAe,zAd,zAO,zAT,zAv,zAl,zAa,if_true,if_false,zAb,zAc,decide_true,decide_false,reduceCtorEq,zBQ,zEH,zEI,zEE,zEF,zEG,zBq,zA9]
    cases h10:decide (d>=(10:Int))<;>simp only[zA8,zAe,zAd,zAO,zAT,zAv,zAl,zAa,if_true,if_false,zAb,zAc,decide_true,decide_false,reduceCtorEq,zBQ,zEH,zEI,zEE,zEF,zEG,zBq,zA9]
    ·cases hcut:decide (n>=(1844674407370955162:Int))<;>simp only[zA8,zAe,zAd,zAO,zAT,zAv,zAl,zAa,if_true,if_false,zAb,zAc,decide_true,decide_false,reduceCtorEq,zBQ,zEH,zEI,zEE,zEF,zEG,zBq,zA9]
     ·rw[zFz,zAa]
      simp only[zAH,zC3,zA8,zAe,zAd,zAO,zAT,zAv,zAl,zAa,if_true,if_false,zAb,zAc,decide_true,decide_false,reduceCtorEq,zBQ,zEH,zEI,zEE,zEF,zEG,zBq,zA9]
      generalize IntKind.u64.wrap (IntKind.u64.wrap (n*10)+IntKind.u64.wrap d)=m
      cases h1':decide (m<IntKind.u64.wrap (n*10))<;>simp only[zA8,zAe,zAd,zAO,zAT,zAv,zAl,zAa,if_true,if_false,zAb,zAc,decide_true,decide_false,reduceCtorEq,zBQ,zEH,zEI,zEE,zEF,zEG,zBq,zA9]
      ·cases h2':decide (m > (18446744073709551615:Int))<;>simp only[zA8,zAe,zAd,zAO,zAT,zAv,zAl,zAa,if_true,if_false,zAb,zAc,decide_true,decide_false,reduceCtorEq,zBQ,zEH,zEI,zEE,zEF,zEG,zBq,zA9]
       ·exact hk25 _ _ _ _ _ ⟨rfl,⟨_,rfl⟩,rfl⟩
       ·rw[zKm,zAa];exact bad 1 _ _ (.inl rfl) k1
      ·rw[zKm,zAa];exact bad 1 _ _ (.inl rfl) k1
     ·rw[zKm,zAa];exact bad 1 _ _ (.inl rfl) k1
    ·rw[zKm,zAa];exact bad 2 0 _ (.inr rfl) k1
 ·rw[if_neg (by simpa using hlt)]
  simp only[zA8,zAe,zAd,zAO,zAT,zAv,zAl,zAa,if_true,if_false,zAb,zAc,decide_true,decide_false,reduceCtorEq,zBQ,zEH,zEI,zEE,zEF,zEG,zBq,zA9]
  exact⟨⟨n,_,rfl,.inl rfl⟩,k1⟩
def PiR (H:zAw)(u:Value)(H':zAw):Prop:=(∃ n e,u = .tuple #[.int .i64 n,e]/\zAjH e)/\Keep zAM H H'
theorem zAaE {H:zAw}{l:List UInt8}(hl:l.length<=1048576):zAz prg zEp [str l,.int .i64 10,.int .i64 0] H (PiR H):=by
 apply zJq
 unfold zHu
 have e0:=λq=>zDG (q:=q) (a:=l) (b:=[])
 have ok:∀ (n:Int) (e:Value) (h:zAw),zAjH e->Keep zAM H h->PiR H (.tuple #[.int .i64 n,e]) h:=λn e h he kk=>⟨⟨n,e,rfl,he⟩,kk⟩
 rw[e0,zAa,zAl]
 cases l with
 | nil =>
  rw[if_pos (by simp),zKm,zAa]
  exact ok 0 _ _ (.inr (.inr rfl)) Keep.refl
 | cons x l =>
  rw[if_neg (by simp)]
  have hi:ixT (str (x::l)) (.int .i64 0)=some (.int .u8 x.toNat):=zLu (i:=0) rfl
  have hs:slT (str (x::l)) (some (.int .i64 1)) none=some (str l):=zVR (l:=x::l) (o:=1) (by simp)
  refine zMh (λt0 t8 h=>(∃ l2:List UInt8,t0=str l2/\l2.length<=1048576)/\(∃ b:Bool,t8 = .bool b)/\H=h) (λk hk=>?_) ?_
  ·simp only[hi,zAa,zAH,zC3]
   have hl':l.length<=1048576:=by simp at hl;omega
   cases h43:((x.toNat:Int) == 43)<;>simp only[zA8,zAe,zAd,zAO,zAT,zAv,zAl,zAa,if_true,if_false,zAb,zAc,decide_true,decide_false,reduceCtorEq,zBQ,zEH,zEI,zEE,zEF,zEG,zBq,zA9]
   ·cases h45:((x.toNat:Int) == 45)<;>simp only[zA8,zAe,zAd,zAO,zAT,zAv,zAl,zAa,if_true,if_false,zAb,zAc,decide_true,decide_false,reduceCtorEq,zBQ,zEH,zEI,zEE,zEF,zEG,zBq,zA9]
    ·exact hk _ _ _ ⟨⟨_,rfl,hl⟩,⟨_,rfl⟩,rfl⟩
    ·rw[hs,zAa];exact hk _ _ _ ⟨⟨_,rfl,hl'⟩,⟨_,rfl⟩,rfl⟩
   ·rw[hs,zAa];exact hk _ _ _ ⟨⟨_,rfl,hl'⟩,⟨_,rfl⟩,rfl⟩
  rintro _ _ _ ⟨⟨l2,rfl,hl2⟩,⟨b,rfl⟩,rfl⟩
  refine zAJ (zYo hl2) ?_
  rintro _ h3 ⟨⟨n,e,rfl,he⟩,k3⟩
  have f1:zAC .no .eql (.int .i64 0) (.int .i64 0)=some (.bool true):=rfl
  have f2:zAC .no .sub (.int .i64 64) (.int .i64 1)=some (.int .i64 63):=rfl
  have f3:cvI .u64 (.int .i64 63)=some (.int .u64 63):=rfl
  have f4:zAC .no .shl (.int .u64 1) (.int .u64 63)=some (.int .u64 9223372036854775808):=by kernel_rfl
  have f5:zAC .no .sub (.int .u64 9223372036854775808) (.int .u64 1)=some (.int .u64 9223372036854775807):=by kernel_rfl
  have g:∀ a:Int,unV .neg (.int .i64 a)=some (.int .i64 (IntKind.i64.wrap (0-a))):=λa=>rfl
  have tail:∀ e:Value,zAjH e->zAC (.ifc (zVq prg) true) .neq e .nilIface=some (.bool false)\/e=err 1\/e=err 2:=λe he=>by
   rcases he with rfl|rfl|rfl
   ·exact .inl zYn
   ·exact .inr (.inl rfl)
   ·exact .inr (.inr rfl)
  rcases he with rfl|rfl|rfl
  ·simp only[zYn,f1,f2,f3,f4,f5,g,zFz,zAH,zC3,zKm,zA8,zAe,zAd,zAO,zAT,zAv,zAl,zAa,if_true,if_false,zAb,zAc,decide_true,decide_false,reduceCtorEq,zBQ,zEH,zEI,zEE,zEF,zEG,zBq,zA9]
   cases b<;>simp only[zA8,zAe,zAd,zAO,zAT,zAv,zAl,zAa,if_true,if_false,zAb,zAc,decide_true,decide_false,reduceCtorEq,zBQ,zEH,zEI,zEE,zEF,zEG,zBq,zA9]
   ·cases hA:decide (n>=(9223372036854775808:Int))<;>simp only[zA8,zAe,zAd,zAO,zAT,zAv,zAl,zAa,if_true,if_false,zAb,zAc,decide_true,decide_false,reduceCtorEq,zBQ,zEH,zEI,zEE,zEF,zEG,zBq,zA9]
    ·exact ok _ _ _ (.inl rfl) k3
    ·exact ok _ _ _ (.inr (.inl rfl)) k3
   ·cases hA:decide (n > (9223372036854775808:Int))<;>simp only[zA8,zAe,zAd,zAO,zAT,zAv,zAl,zAa,if_true,if_false,zAb,zAc,decide_true,decide_false,reduceCtorEq,zBQ,zEH,zEI,zEE,zEF,zEG,zBq,zA9]
    ·exact ok _ _ _ (.inl rfl) k3
    ·exact ok _ _ _ (.inr (.inl rfl)) k3
  ·simp only[zVS,zAgn,f1,f2,f3,f4,f5,g,zFz,zAH,zC3,zKm,zA8,zAe,zAd,zAO,zAT,zAv,zAl,zAa,if_true,if_false,zAb,zAc,decide_true,decide_false,reduceCtorEq,zBQ,zEH,zEI,zEE,zEF,zEG,zBq,zA9,show((1:Int) == 1)=true from rfl]
   cases b<;>simp only[zA8,zAe,zAd,zAO,zAT,zAv,zAl,zAa,if_true,if_false,zAb,zAc,decide_true,decide_false,reduceCtorEq,zBQ,zEH,zEI,zEE,zEF,zEG,zBq,zA9]
   ·cases hA:decide (n>=(9223372036854775808:Int))<;>simp only[zA8,zAe,zAd,zAO,zAT,zAv,zAl,zAa,if_true,if_false,zAb,zAc,decide_true,decide_false,reduceCtorEq,zBQ,zEH,zEI,zEE,zEF,zEG,zBq,zA9]
    ·exact ok _ _ _ (.inl rfl) k3
    ·exact ok _ _ _ (.inr (.inl rfl)) k3
   ·cases hA:decide (n > (9223372036854775808:Int))<;>simp only[zA8,zAe,zAd,zAO,zAT,zAv,zAl,zAa,if_true,if_false,zAb,zAc,decide_true,decide_false,reduceCtorEq,zBQ,zEH,zEI,zEE,zEF,zEG,zBq,zA9]
    ·exact ok _ _ _ (.inl rfl) k3
    ·exact ok _ _ _ (.inr (.inl rfl)) k3
  ·simp only[zVS,zAgn,zKm,zA8,zAe,zAd,zAO,zAT,zAv,zAl,zAa,if_true,if_false,zAb,zAc,decide_true,decide_false,reduceCtorEq,zBQ,zEH,zEI,zEE,zEF,zEG,zBq,zA9,show((2:Int) == 1)=false from rfl]
   exact ok _ _ _ (.inr (.inr rfl)) k3
theorem zAcr (n:Nat)(h:n<1000000):1<=(zHc n).length/\(zHc n).length<=6:=⟨List.length_pos_iff.2 (zAhJ n),zOx h⟩
theorem zVQ.not {l:List UInt8}{n:Int}(h:∀ m,m<=999999->l≠zHc m):zVQ l n:=λm hm e=>absurd e (h m hm)
def isD (x:UInt8):Prop:=48<=x.toNat/\x.toNat<=57
theorem zT0:∀ {l:List UInt8} {n:Nat},(∀ x∈l,isD x)->l.foldl (λn c=>n*10+(c.toNat-48)) n<(n+1)*10 ^ l.length
 | [],n,_=>by simp
 | x::l,n,h=>by
  have h2:=h x (by simp)
  unfold isD at h2
  have h1:=zT0 (l:=l) (n:=n*10+(x.toNat-48)) λy hy=>h y (by simp[hy])
  rw[List.foldl_cons,zAQ,Nat.pow_succ]
  have h3:(n*10+(x.toNat-48)+1)*10 ^ l.length<=((n+1)*10)*10 ^ l.length:=zBo _ (by omega)
  have h4:((n+1)*10)*10 ^ l.length=(n+1)*(10 ^ l.length*10):=by rw[Nat.mul_assoc,Nat.mul_comm 10]
  omega
theorem zAhN {l:List UInt8}(h:∀ x∈l,isD x):zAbm l<10 ^ l.length:=by
 have:=zT0 (n:=0) h
 rw[zAg,Nat.one_mul]at this
 exact this
def AiR (l:List UInt8)(H:zAw)(u:Value)(H':zAw):Prop:=(∃ n e,u = .tuple #[.int .i64 n,e]/\zAjH e/\zVQ l n)/\Keep zAM H H'
theorem zAhO {H:zAw}{l:List UInt8}(hl:l.length<=1048576):zAz prg zGT [str l] H (AiR l H):=by
 apply zK6
 unfold zJd
 have e1:zAC .no .lss (.int .i64 0) (.int .i64 (l.length:Nat))=some (.bool (decide (0<l.length))):=by
  rw[zAH];simp only[zC3];congr 2;rw[decide_eq_decide];omega
 have e2:zAC .no .lss (.int .i64 (l.length:Nat)) (.int .i64 19)=some (.bool (decide (l.length<19))):=by
  rw[zAH];simp only[zC3];congr 2;rw[decide_eq_decide];omega
 have far:∀ (h:¬ (0<l.length/\l.length<19)),∀ n,zVQ l n:=λh n=>zVQ.not λm hm e=>h (by
  have:=zAcr m (by omega);rw[<- e]at this;omega)
 have slow:¬ (0<l.length/\l.length<19)->zA3 prg zEp [str l,.int .i64 10,.int .i64 0] H λt72 h30=>Mpu (zFg 0 t72) λt73=>Mpu (zFg 1 t72) λt74=>AiR l H (.tuple #[t73,t74]) h30:=λh=>by
  refine zAJ (zAaE hl) ?_
  rintro _ h3 ⟨⟨n,e,rfl,he⟩,k3⟩
  simp only[zA8,zAe,zAd,zAO,zAT,zAv,zAl,zAa,if_true,if_false,zAb,zAc,decide_true,decide_false,reduceCtorEq,zBQ,zEH,zEI,zEE,zEF,zEG,zBq,zA9]
  exact⟨⟨n,e,rfl,he,far h n⟩,k3⟩
 simp only[zE5,e1,e2,zA8,zAe,zAd,zAO,zAT,zAv,zAl,zAa,if_true,if_false,zAb,zAc,decide_true,decide_false,reduceCtorEq,zBQ,zEH,zEI,zEE,zEF,zEG,zBq,zA9,zAlb]
 cases h0:decide (0<l.length)<;>simp only[zA8,zAe,zAd,zAO,zAT,zAv,zAl,zAa,if_true,if_false,zAb,zAc,decide_true,decide_false,reduceCtorEq,zBQ,zEH,zEI,zEE,zEF,zEG,zBq,zA9]
 ·exact slow λh=>absurd h.1 (of_decide_eq_false h0)
 cases h19:decide (l.length<19)<;>simp only[zA8,zAe,zAd,zAO,zAT,zAv,zAl,zAa,if_true,if_false,zAb,zAc,decide_true,decide_false,reduceCtorEq,zBQ,zEH,zEI,zEE,zEF,zEG,zBq,zA9]
 ·exact slow λh=>absurd h.2 (of_decide_eq_false h19)
 have h0:=of_decide_eq_true h0
 have h19:=of_decide_eq_true h19
 obtain⟨x,r,rfl⟩:∃ x r,l=x::r:=by cases l with
  | nil=>simp at h0
  | cons x r=>exact⟨x,r,rfl⟩
 have hi:ixT (str (x::r)) (.int .i64 0)=some (.int .u8 x.toNat):=zLu (i:=0) rfl
 have hs:slT (str (x::r)) (some (.int .i64 1)) none=some (str r):=zVR (l:=x::r) (o:=1) (by simp)
 have sg:∀ m,x::r=zHc m->isD x:=λm e=>zQP m x (by rw[<- e];simp)
 refine zMh (λt0 _ h=>(∃ l2:List UInt8,t0=str l2/\l2.length<19/\∀ m,x::r=zHc m->l2=x::r)/\H=h) (λk hk=>?_) ?_
 ·simp only[hi,zAa,zAH,zC3]
  have hr:r.length<19:=by simp at h19;omega
  have e3:zAC .no .lss (.int .i64 (r.length:Nat)) (.int .i64 1)=some (.bool (decide (r.length<1))):=by
   rw[zAH];simp only[zC3];congr 2;rw[decide_eq_decide];omega
  have hbad:∀ c:Nat,c<48->(x.toNat:Int)=c->∀ m,x::r=zHc m->False:=λc hc hx m e=>by
   have:=sg m e;unfold isD at this;omega
  cases h45:((x.toNat:Int) == 45)<;>simp only[zA8,zAe,zAd,zAO,zAT,zAv,zAl,zAa,if_true,if_false,zAb,zAc,decide_true,decide_false,reduceCtorEq,zBQ,zEH,zEI,zEE,zEF,zEG,zBq,zA9]
  ·cases h43:((x.toNat:Int) == 43)<;>simp only[zA8,zAe,zAd,zAO,zAT,zAv,zAl,zAa,if_true,if_false,zAb,zAc,decide_true,decide_false,reduceCtorEq,zBQ,zEH,zEI,zEE,zEF,zEG,zBq,zA9]
   ·exact hk _ _ _ ⟨⟨_,rfl,h19,λ_ _=>rfl⟩,rfl⟩
   ·have h43:=eq_of_beq h43
    simp only[hs,zE5,e3,zA8,zAe,zAd,zAO,zAT,zAv,zAl,zAa,if_true,if_false,zAb,zAc,decide_true,decide_false,reduceCtorEq,zBQ,zEH,zEI,zEE,zEF,zEG,zBq,zA9]
    cases h1:decide (r.length<1)<;>simp only[zA8,zAe,zAd,zAO,zAT,zAv,zAl,zAa,if_true,if_false,zAb,zAc,decide_true,decide_false,reduceCtorEq,zBQ,zEH,zEI,zEE,zEF,zEG,zBq,zA9]
    ·exact hk _ _ _ ⟨⟨_,rfl,hr,λm e=>(hbad 43 (by omega) h43 m e).elim⟩,rfl⟩
    ·rw[zKm,zAa]
     exact⟨⟨0,_,rfl,.inr (.inr rfl),λm _ e=>(hbad 43 (by omega) h43 m e).elim⟩,Keep.refl⟩
  ·have h45:=eq_of_beq h45
   simp only[hs,zE5,e3,zA8,zAe,zAd,zAO,zAT,zAv,zAl,zAa,if_true,if_false,zAb,zAc,decide_true,decide_false,reduceCtorEq,zBQ,zEH,zEI,zEE,zEF,zEG,zBq,zA9]
   cases h1:decide (r.length<1)<;>simp only[zA8,zAe,zAd,zAO,zAT,zAv,zAl,zAa,if_true,if_false,zAb,zAc,decide_true,decide_false,reduceCtorEq,zBQ,zEH,zEI,zEE,zEF,zEG,zBq,zA9]
   ·exact hk _ _ _ ⟨⟨_,rfl,hr,λm e=>(hbad 45 (by omega) h45 m e).elim⟩,rfl⟩
   ·rw[zKm,zAa]
    exact⟨⟨0,_,rfl,.inr (.inr rfl),λm _ e=>(hbad 45 (by omega) h45 m e).elim⟩,Keep.refl⟩
 rintro _ _ _ ⟨⟨l2,rfl,hl2,hsame⟩,rfl⟩
 refine zMh (λt6 _ h=>t6 = .int .i64 (zAbm l2:Nat)/\Keep zAM H h) (λk23 hk23=>?_) ?_
 ·refine zAhM (by omega) λv h1 hv k1=>?_
  simp only[hv.len,zAa]
  refine zUv (λt6 t49 h=>∃ i:Nat,i<=l2.length/\t49 = .int .i64 (i:Nat)/\t6 = .int .i64 (zAbm (l2.take i):Nat)/\(∀ y∈l2.take i,isD y)/\h1=h) (λ_ u _=>match u with | .int _ t=>l2.length-t.toNat|_=>0) ⟨0,zAA _,rfl,rfl,by simp,rfl⟩ ?_
  rintro _ _ _ ⟨i,hi,rfl,rfl,hD,rfl⟩ k hk
  have elt:zAC .no .lss (.int .i64 (i:Nat)) (.int .i64 (l2.length:Nat))=some (.bool (decide (i<l2.length))):=by
   rw[zAH];simp only[zC3];congr 2;rw[decide_eq_decide];omega
  rw[elt,zAa,zAl]
  by_cases hlt:i<l2.length
  ·rw[if_pos (by simpa using hlt)]
   have hg:l2[i]? = some l2[i]:=zAj hlt
   generalize l2[i]=y at hg
   obtain⟨p,hix,hld,_⟩:=hv.at hg
   have hmem:y∈l2:=zAB hg
   have htk:l2.take (i+1)=l2.take i++[y]:=by rw[zAI,hg];rfl
   simp only[hix,hld,zAa,zAH,zC3]
   have hw:IntKind.u8.wrap ((y.toNat:Int)-48)=if 48<=y.toNat then (y.toNat:Int)-48 else (y.toNat:Int)+208:=by
    have:=y.toNat_lt
    simp only[IntKind.wrap,IntKind.bits,IntKind.signed]
    simp
    split<;>omega
   have hyl:=y.toNat_lt
   by_cases hd:isD y
   ·have hd':=hd
    unfold isD at hd'
    have hwe:IntKind.u8.wrap ((y.toNat:Int)-48)=((y.toNat-48:Nat):Int):=by rw[hw,if_pos hd'.1];omega
    have hng:¬ (((y.toNat-48:Nat):Int) > 9):=by omega
    have hvl:=zAhN hD
    have hp:(10:Nat) ^ (l2.take i).length<=10 ^ 17:=zBD (by omega) (by simp;omega)
    have w1:IntKind.i64.wrap (((zAbm (l2.take i):Nat):Int)*10)=((zAbm (l2.take i)*10:Nat):Int):=by rw[zB9]<;>omega
    have w2:IntKind.i64.wrap ((y.toNat-48:Nat):Int)=((y.toNat-48:Nat):Int):=by rw[zB9]<;>omega
    have w3:IntKind.i64.wrap (((zAbm (l2.take i)*10:Nat):Int)+((y.toNat-48:Nat):Int))=((zAbm (l2.take (i+1)):Nat):Int):=by
     rw[htk,zWY,zB9]<;>omega
    have w4:IntKind.i64.wrap ((i:Int)+1)=(i+1:Nat):=by rw[zB9]<;>omega
    simp only[hwe,decide_eq_false hng,zA8,zAe,zAd,zAO,zAT,zAv,zAl,zAa,if_true,if_false,zAb,zAc,decide_true,decide_false,reduceCtorEq,zBQ,zEH,zEI,zEE,zEF,zEG,zBq,zA9,zFz,w1,w2,zAH,zC3,w3,w4]
    refine hk _ _ _ ⟨i+1,by omega,rfl,rfl,?_,rfl⟩ (by show l2.length-(i+1)<l2.length-i;omega)
    intro z hz
    rw[htk]at hz
    rcases zAt.1 hz with hz|hz
    ·exact hD z hz
    ·obtain rfl:z=y:=by simpa using hz
     exact hd
   ·have hg9:IntKind.u8.wrap ((y.toNat:Int)-48) > 9:=by
     rw[hw];unfold isD at hd;split<;>omega
    rw[decide_eq_true hg9]
    simp only[zA8,zAe,zAd,zAO,zAT,zAv,zAl,zAa,if_true,if_false,zAb,zAc,decide_true,decide_false,reduceCtorEq,zBQ,zEH,zEI,zEE,zEF,zEG,zBq,zA9]
    rw[zKm,zAa]
    refine⟨⟨0,_,rfl,.inr (.inr rfl),λm _ e=>?_⟩,k1⟩
    have:=zQP m y (by rw[<- e,<- hsame m e];exact hmem)
    exact absurd this hd
  ·rw[if_neg (by simpa using hlt)]
   rw[zAs (by omega)]
   exact hk23 _ _ _ ⟨rfl,k1⟩
 rintro _ _ h4 ⟨rfl,k4⟩
 simp only[hi,zAa,zAH,zC3]
 cases h45:((x.toNat:Int) == 45)<;>simp only[zA8,zAe,zAd,zAO,zAT,zAv,zAl,zAa,if_true,if_false,zAb,zAc,decide_true,decide_false,reduceCtorEq,zBQ,zEH,zEI,zEE,zEF,zEG,zBq,zA9]
 ·refine⟨⟨_,_,rfl,.inl rfl,λm hm e=>?_⟩,k4⟩
  rw[hsame m e,e,zVP]
 ·have h45:=eq_of_beq h45
  simp only[unV,zAa]
  refine⟨⟨_,_,rfl,.inl rfl,λm hm e=>?_⟩,k4⟩
  have:=sg m e
  unfold isD at this;omega
theorem zAjI {H:zAw}{l:List UInt8}(hE:zAeY H)(hl:l.length<=1048576):zAz prg zNv [str l] H λu H'=>(∃ n e,u = .tuple #[.int .i64 n,e]/\zVQ l n)/\Keep zAM H H':=by
 apply zPw
 unfold zPv
 refine zAJ (zAhO hl) ?_
 rintro _ h1 ⟨⟨n,e,rfl,he,hn⟩,k1⟩
 rcases he with rfl|rfl|rfl
 ·simp only[zYn,zA8,zAe,zAd,zAO,zAT,zAv,zAl,zAa,if_true,if_false,zAb,zAc,decide_true,decide_false,reduceCtorEq,zBQ,zEH,zEI,zEE,zEF,zEG,zBq,zA9]
  exact⟨⟨n,_,rfl,hn⟩,k1⟩
 ·simp only[zVS,zA8,zAe,zAd,zAO,zAT,zAv,zAl,zAa,if_true,if_false,zAb,zAc,decide_true,decide_false,reduceCtorEq,zBQ,zEH,zEI,zEE,zEF,zEG,zBq,zA9]
  refine(zAJ (zW2 (a:=[65,116,111,105]) (hE.keep k1 λ_ h=>h.elim) hl (.inl rfl)) ?_)
  intro u h2 k2
  exact⟨⟨n,u,rfl,hn⟩,k1.trans k2⟩
 ·simp only[zVS,zA8,zAe,zAd,zAO,zAT,zAv,zAl,zAa,if_true,if_false,zAb,zAc,decide_true,decide_false,reduceCtorEq,zBQ,zEH,zEI,zEE,zEF,zEG,zBq,zA9]
  refine(zAJ (zW2 (a:=[65,116,111,105]) (hE.keep k1 λ_ h=>h.elim) hl (.inr rfl)) ?_)
  intro u h2 k2
  exact⟨⟨n,u,rfl,hn⟩,k1.trans k2⟩
theorem zAhP:zBE prg zHM=some [Value.int .i64 0].toArray:=by kernel_rfl
theorem zAlo:zBE prg zHC=some [Value.int .i64 0].toArray:=by kernel_rfl
theorem zOb {c:UInt8}:∀ {l x:List UInt8},x∈zDW c l->x.length<=l.length
 | [],x,h=>by simp[zDW]at h;subst h;simp
 | y::l,x,h=>by
  rw[zDW]at h
  split at h
  ·rcases zAr.1 h with rfl|h
   ·simp
   ·have:=zOb h;simp;omega
  ·split at h
   ·obtain rfl:x=[y]:=by simpa using h
    simp
   ·rename_i h' t he
    rcases zAr.1 h with rfl|h
    ·have:=zOb (c:=c) (l:=l) (x:=h') (by rw[he];simp)
     simp;omega
    ·have:=zOb (c:=c) (l:=l) (x:=x) (by rw[he];simp[h])
     simp;omega
theorem zZB {c:UInt8}{l:List UInt8}:(zVO c l).length<=l.length:=by
 unfold zVO
 have:=congrArg List.length (List.takeWhile_append_dropWhile (p:=(· != c)) (l:=l))
 rw[zAq]at this;omega
theorem zAe0 {c:UInt8}{l:List UInt8}:(zXQ c l).length<=l.length:=by
 unfold zXQ
 have:=congrArg List.length (List.takeWhile_append_dropWhile (p:=(· != c)) (l:=l))
 rw[zAq]at this
 rw[zCY];omega
def zAgo (s:List UInt8)(u:Value):Prop :=
 (∃ v:Ver,v.wf/\zGl v=true/\zEf v=s/\u = .tuple #[.agg (zED v).toArray,.int .i64 0]) \/
 ((∀ v:Ver,v.p.length=3->zGl v=true->zEf v≠s)/\u = .tuple #[.agg (zED zEQ).toArray,.int .i64 10])
structure zAi2 (H:zAw)(q2 q3 q4 q8:Nat)(s:List UInt8)(j:Nat)(h:zAw):Prop where
 r:At h q2 (zED zEQ)
 e:At h q3 [.int .i64 0]
 i:At h q8 [.int .i64 (j:Nat)]
 le:j<=3
 v:∃ v:Ver,v.wf/\At h q4 (zED v)/\v.pre=zXQ 45 s/\∀ (i:Nat) (l:List UInt8),i<j->(zDW 46 (zVO 45 s))[i]? = some l->∃ n,v.p[i]? = some n/\zVQ l n
 k:Keep zAM H h
theorem zAi2.keep {H:zAw}{q2 q3 q4 q8:Nat}{s:List UInt8}{j:Nat}{h h':zAw}{S:zA2}(p:zAi2 H q2 q3 q4 q8 s j h)(k:Keep S h h')(hs:∀ b,S b->H.size<=b/\b≠q2/\b≠q3/\b≠q4/\b≠q8):zAi2 H q2 q3 q4 q8 s j h':=by
 obtain⟨v,h1,h2,h3⟩:=p.v
 exact⟨p.r.keep k λh=>(hs _ h).2.1 rfl,p.e.keep k λh=>(hs _ h).2.2.1 rfl,p.i.keep k λh=>(hs _ h).2.2.2.2 rfl,p.le,⟨v,h1,h2.keep k λh=>(hs _ h).2.2.2.1 rfl,h3⟩,p.k.fresh k λb h=>(hs b h).1⟩
theorem zAhQ {v:Ver}(hv:v.wf){j:Nat}{n:Int}(hj:j<3):(zED v).set j (.int .i64 n)=zED ⟨v.p.set j n,v.pre⟩:=by
 unfold zED
 rw[List.set_append_left _ _ (by simp[hv.p3];exact hj),zSa]
theorem zVU {n0:Nat}{h:zAw}{k:zAw->Prop}(hk:∀ h',zOI n0 h h'->k h'):Mcl n0 h k:=hk
theorem At.closed {n0:Nat}{h h':zAw}{q:Nat}{cs:List Value}(a:At h q cs)(c:zOI n0 h h'):At h' q cs:=by
 obtain⟨T,a⟩:=a
 exact⟨T,c.2.2 _ _ a λds e=>by cases e⟩
theorem zHW {H h h':zAw}(k:Keep zAM H h)(c:zOI H.size h h'):Keep zAM H h' :=
 ⟨by rw[c.1];exact k.1,λi hi _=>by rw[c.2.1 i hi,k.2 i hi id]⟩
set_option maxHeartbeats 1000000 in
theorem zAhR {H:zAw}{s:List UInt8}(hE:zAeY H)(hT:zWi H)(hl:s.length<=1048576):zAz prg zMp [str s] H λu H'=>zAgo s u/\Keep zAM H H':=by
 apply zO1
 unfold zOL
 simp only[zBa,zAmQ,zAhP,zAlo]
 generalize hH1:H.push (.cells (zED ⟨[0,0,0],[]⟩).toArray zAU (0,0))=H1
 have k1:Keep zAM H H1:=by rw[<- hH1];exact Keep.push
 have a1:At H1 H.size (zED zEQ):=by rw[<- hH1];exact At.push
 have s1:H1.size=H.size+1:=by rw[<- hH1];simp
 generalize hH2:H1.push (.cells [Value.int .i64 0].toArray zHM (0,0))=H2
 have k2:Keep zAM H1 H2:=by rw[<- hH2];exact Keep.push
 have e2:At H2 H1.size [.int .i64 0]:=by rw[<- hH2];exact At.push
 have s2:H2.size=H1.size+1:=by rw[<- hH2];simp
 generalize hH3:H2.push (.cells (zED ⟨[0,0,0],[]⟩).toArray zAU (0,0))=H3
 have k3:Keep zAM H2 H3:=by rw[<- hH3];exact Keep.push
 have b3:At H3 H2.size (zED zEQ):=by rw[<- hH3];exact At.push
 have s3:H3.size=H2.size+1:=by rw[<- hH3];simp
 refine zAJ (zAln (by omega)) ?_
 rintro _ _ ⟨⟨bc,rfl⟩,rfl⟩
 obtain⟨h5,st5,b5,k5⟩:=b3.st1 (i:=3) (v:=str (zXQ 45 s)) (by rw[zDL zGZ];omega) rfl
 have hb5:(zED zEQ).set 3 (str (zXQ 45 s))=zED ⟨[0,0,0],zXQ 45 s⟩:=rfl
 rw[hb5]at b5
 have g5:=k5.1
 simp only[zEE,zEF,zEG,zAa,zBf,zAg,st5,zAV]
 generalize hH6:h5.push (.cells [Value.int .i64 0].toArray zHC (0,0))=h6
 have k6:Keep zAM h5 h6:=by rw[<- hH6];exact Keep.push
 have i6:At h6 h5.size [.int .i64 0]:=by rw[<- hH6];exact At.push
 have s6:h6.size=h5.size+1:=by rw[<- hH6];simp
 obtain⟨h7,st7,i7,k7⟩:=i6.st1 (i:=0) (v := .int .i64 0) (by simp) rfl
 have g7:=k7.1
 rw[st7,zAV]
 refine zAJ zVb ?_
 rintro _ h8 ⟨qs,qp,qn,rfl,hst,hq,k8⟩
 have g8:=k8.1
 have hcl:=zAe0 (c:=45) (l:=s)
 have k05:Keep zAM H h5:=(k1.trans (k2.trans k3)).fresh k5 λb hb=>by omega
 have k07:Keep zAM H h7:=(k05.trans k6).fresh k7 λb hb=>by omega
 have k08:=k07.trans k8
 have k18:∀ {q cs},q≠H2.size->q≠h5.size->At H3 q cs->At h8 q cs:=λh1 h2 a=>(((a.keep k5 h1).keep k6 id).keep k7 h2).keep k8 id
 have inv0:zAi2 H H.size H1.size H2.size h5.size s 0 h8 :=
  ⟨k18 (by omega) (by omega) ((a1.keep k2 id).keep k3 id),k18 (by omega) (by omega) (e2.keep k3 id),i7.keep k8 id,by omega,
   ⟨⟨[0,0,0],zXQ 45 s⟩,⟨rfl,by show(zXQ 45 s).length<=_;omega⟩,((b5.keep k6 id).keep k7 (by omega)).keep k8 id,rfl,λi l hi=>by omega⟩,k08⟩
 have hne:∀ b,(b=H.size\/b=H1.size\/b=H2.size\/b=h5.size)->H.size<=b/\b<h8.size/\¬ (b=qs\/b=qp\/b=qn):=λb hb=>by
  refine⟨by omega,by omega,λhbq=>?_⟩
  have:=hq b hbq
  omega
 have hpl:∀ x∈zDW 46 (zVO 45 s),x.length<=1048576:=λx hx=>by
  have:=zOb hx;have:=zZB (c:=45) (l:=s);omega
 refine range_i (xs:=(zDW 46 (zVO 45 s)).map λx=>[str x]) (S:=λb=>b=qs\/b=qp\/b=qn) (W:=λb=>b=H.size\/b=H1.size\/b=H2.size\/b=h5.size) (St:=zQQ qs qp qn (zVO 45 s) 46)
  (zVa (by have:=zZB (c:=45) (l:=s);omega)) (λo o'=>?_) k08.1
  (zAi2 H H.size H1.size H2.size h5.size s) (λc h=>c = .ret/\At h H.size (zED zEQ)/\At h H1.size [.int .i64 10]/\3<(zDW 46 (zVO 45 s)).length/\Keep zAM H h) inv0
  (λi h h' hI k=>hI.keep k λb hb=>?_) (λc h h' hX k=>?_) (λb hb=>(hq b hb).2) (λb hb=>⟨?_,?_,(hne b hb).2.2⟩) ?_ ?_ ?_
 ·have kp:Keep zAM h8 ((h8.push o).push o'):=Keep.push.trans Keep.push
  exact⟨hst.s.keep kp id,hst.p.keep kp id,hst.n.keep kp id,hst.ne⟩
 ·rcases hb with hb|rfl|rfl
  ·have:=hq b hb
   refine⟨by omega,?_,?_,?_,?_⟩<;>(intro e;omega)
  ·refine⟨by omega,?_,?_,?_,?_⟩<;>(intro e;omega)
  ·refine⟨by omega,?_,?_,?_,?_⟩<;>(intro e;omega)
 ·obtain⟨rfl,x1,x2,x3,x4⟩:=hX
  have nb:∀ b,(b=qs\/b=qp\/b=qn)\/b=h8.size\/b=h8.size+1->H.size<=b/\b≠H.size/\b≠H1.size:=λb hb=>by
   rcases hb with hb|rfl|rfl
   ·have:=hq b hb;omega
   ·omega
   ·omega
  exact⟨rfl,x1.keep k λhb=>(nb _ hb).2.1 rfl,x2.keep k λhb=>(nb _ hb).2.2 rfl,x3,x4.fresh k λb hb=>(nb b hb).1⟩
 ·have:=(hne b hb).2.1;omega
 ·have:=(hne b hb).2.1;omega
 ·intro j x h r hx hI hloop hready K hN hEx
  obtain⟨y,hy,rfl⟩:∃ y,(zDW 46 (zVO 45 s))[j]? = some y/\x=[str y]:=by
   rw[zAp]at hx
   obtain⟨y,h1,h2⟩:=zBy.1 hx
   exact⟨y,h1,h2.symm⟩
  refine⟨rfl,r,hloop,hready,?_⟩
  generalize hhb:h.setIfInBounds (h8.size+1) (.loop { r with state := .busy })=hb at *
  have kb:Keep (· = h8.size+1) h hb:=by rw[<- hhb];exact Keep.set rfl
  have hI:=hI.keep kb λb hb=>by subst hb;refine⟨by omega,?_,?_,?_,?_⟩<;>(intro e;omega)
  obtain⟨v,hv,hav,hpre,hpt⟩:=hI.v
  have d8:=hI.i.ld (i:=0) rfl
  have hle:=hI.le
  have e3:zAC .no .eql (.int .i64 (j:Nat)) (.int .i64 3)=some (.bool (decide (j=3))):=by
   rw[zAH];simp only[zC3];congr 2;rw[zA4];simp;omega
  simp only[d8,e3,zAa,zAl]
  by_cases hj:j=3
  ·rw[if_pos (by simpa using hj)]
   obtain⟨h15,st15,a15,k15⟩:=hI.r.st (n:=4) (ds:=zED zEQ) (zDL zGZ) (zDL zGZ) zMe
   have e15:=hI.e.keep k15 (show ¬ H1.size=H.size by omega)
   obtain⟨h16,st16,e16,k16⟩:=e15.st1 (i:=0) (v := .int .i64 10) (by simp) rfl
   simp only[zAlm,zAa,st15,st16,zAV]
   have kk:Keep (λb=>b=H.size\/b=H1.size\/b=H2.size\/b=h5.size) hb h16:=(k15.mono λb _ h => .inl h).trans (k16.mono λb _ h => .inr (.inl h))
   refine hEx _ _ kk ⟨rfl,a15.keep k16 (by omega),e16,?_,(hI.k.fresh k15 λb hb=>by omega).fresh k16 λb hb=>by omega⟩
   have:=(zAP.1 hy).1;omega
  ·rw[if_neg (by simpa using hj)]
   have hj3:j<3:=by omega
   have hyl:=hpl y (zAB hy)
   refine zAJ (zAjI (hE.keep hI.k λ_ h=>h.elim) hyl) ?_
   rintro _ h17 ⟨⟨n,e,rfl,hn⟩,k17⟩
   have hI17:=hI.keep k17 λ_ h=>h.elim
   have d17:=hI17.i.ld (i:=0) rfl
   have a17:=hav.keep k17 id
   have hix:ixA 3 1 (Ptr H2.size 0) (.int .i64 (j:Nat))=some (Ptr H2.size j):=zR3 hj3
   obtain⟨h18,st18,a18,k18'⟩:=a17.st1 (i:=j) (v := .int .i64 n) (by rw[zDL hv];omega) rfl
   rw[zAhQ hv hj3]at a18
   have i18:=hI17.i.keep k18' (show ¬ h5.size=H2.size by omega)
   have d18:=i18.ld (i:=0) rfl
   obtain⟨h19,st19,i19,k19⟩:=i18.st1 (i:=0) (v := .int .i64 ((j+1:Nat):Int)) (by simp) rfl
   have hadd:zAC .no .add (.int .i64 (j:Nat)) (.int .i64 1)=some (.int .i64 ((j+1:Nat):Int)):=zBV (by omega)
   simp only[d17,zBf,zAg,hix,st18,zAV,d18,hadd,st19,zA8,zAe,zAd,zAO,zAT,zAv,zAl,zAa,if_true,if_false,zAb,zAc,decide_true,decide_false,reduceCtorEq,zBQ,zEH,zEI,zEE,zEF,zEG,zBq,zA9]
   have kW:Keep (λb=>b=H.size\/b=H1.size\/b=H2.size\/b=h5.size) hb h19 :=
    (k17.mono λb _ h=>h.elim).trans ((k18'.mono λb _ h => .inr (.inr (.inl h))).trans (k19.mono λb _ h => .inr (.inr (.inr h))))
   refine hN _ kW ⟨(hI17.r.keep k18' (by omega)).keep k19 (by omega),(hI17.e.keep k18' (by omega)).keep k19 (by omega),i19,by omega,⟨⟨v.p.set j n,v.pre⟩,⟨by simpa using hv.p3,hv.pre⟩,a18.keep k19 (by omega),hpre,λi l hi hil=>?_⟩,(hI17.k.fresh k18' λb hb=>by omega).fresh k19 λb hb=>by omega⟩
   show ∃ m,(v.p.set j n)[i]? = some m/\zVQ l m
   by_cases hij:i=j
   ·subst hij
    rw[hy]at hil
    cases hil
    have:=hv.p3
    exact⟨n,by rw[List.getElem?_set_self (by omega)],hn⟩
   ·obtain⟨m,h1,h2⟩:=hpt i l (by omega) hil
    exact⟨m,by rw[List.getElem?_set_ne (Ne.symm hij)];exact h1,h2⟩
 ·intro h hsz hI
  rw[zAf]at hI
  obtain⟨v,hv,hav,hpre,hpt⟩:=hI.v
  have raw:zAmk s v:=⟨hv.p3,hpre,λi l hil=>hpt i l (zAP.1 hil).1 hil⟩
  refine .inl ⟨rfl,?_⟩
  have e0:=λq=>zDG (q:=q) (a:=s) (b:=[])
  have fail:∀ h,zAi2 H H.size H1.size H2.size h5.size s (zDW 46 (zVO 45 s)).length h->(∀ v:Ver,v.p.length=3->zGl v=true->zEf v≠s) ->
    Mpu (zCV prg zAU []) λt42=>Mwr (stN 4 h (Ptr H.size 0) t42) λh23=>Mwr (st1 h23 (Ptr H1.size 0) (.int .i64 10)) λh24=>Mcl H.size h24 λh25=>Mpu (ldN 4 h25 (Ptr H.size 0)) λr26=>Mpu (ld1 h25 (Ptr H1.size 0)) λr27=>zAgo s (.tuple #[r26,r27])/\Keep zAM H h25:=by
   intro h hI hno
   obtain⟨h15,st15,a15,k15⟩:=hI.r.st (n:=4) (ds:=zED zEQ) (zDL zGZ) (zDL zGZ) zMe
   have e15:=hI.e.keep k15 (show ¬ H1.size=H.size by omega)
   obtain⟨h16,st16,e16,k16⟩:=e15.st1 (i:=0) (v := .int .i64 10) (by simp) rfl
   have a16:=a15.keep k16 (show ¬ H.size=H1.size by omega)
   simp only[zAlm,zAa,st15,st16,zAV]
   refine zVU λh' hc=>?_
   have a':=a16.closed hc
   have e':=e16.closed hc
   rw[zPH a' zGZ,zAa,e'.ld (i:=0) rfl,zAa]
   exact⟨.inr ⟨hno,rfl⟩,zHW ((hI.k.fresh k15 λb hb=>by omega).fresh k16 λb hb=>by omega) hc⟩
  cases hse:decide (s=[])
  ·have hsne:=of_decide_eq_false hse
   simp only[e0,hse,zPH hav hv,zA8,zAe,zAd,zAO,zAT,zAv,zAl,zAa,if_true,if_false,zAb,zAc,decide_true,decide_false,reduceCtorEq,zBQ,zEH,zEI,zEE,zEF,zEG,zBq,zA9]
   refine zAJ (zPG hv (hT.keep hI.k λ_ h=>h.elim)) ?_
   rintro _ h21 ⟨rfl,k21⟩
   have hI21:=hI.keep k21 λ_ h=>h.elim
   have av21:=hav.keep k21 id
   have en:=λq=>zTY (q:=q) (a:=zEf v) (b:=s)
   cases hsh:decide (zEf v=s)
   ·have hshne:=of_decide_eq_false hsh
    simp only[en,hsh,zA8,zAe,zAd,zAO,zAT,zAv,zAl,zAa,if_true,if_false,zAb,zAc,decide_true,decide_false,reduceCtorEq,zBQ,zEH,zEI,zEE,zEF,zEG,zBq,zA9]
    exact fail h21 hI21 λw hw hok hs=>hshne (by rw[zZu hw hok hs raw];exact hs)
   ·have hsh':=of_decide_eq_true hsh
    have hok:zGl v=true:=by
     cases hok:zGl v with
     | true=>rfl
     | false=>exact absurd (by rw[<- hsh'];unfold zEf;rw[hok];rfl) hsne
    obtain⟨h15,st15,a15,k15⟩:=hI21.r.st (n:=4) (ds:=zED v) (zDL zGZ) (zDL hv) zMe
    have e15:=hI21.e.keep k15 (show ¬ H1.size=H.size by omega)
    obtain⟨h16,st16,e16,k16⟩:=e15.st1 (i:=0) (v := .int .i64 0) (by simp) rfl
    have a16:=a15.keep k16 (show ¬ H.size=H1.size by omega)
    simp only[en,hsh,zA8,zAe,zAd,zAO,zAT,zAv,zAl,zAa,if_true,if_false,zAb,zAc,decide_true,decide_false,reduceCtorEq,zBQ,zEH,zEI,zEE,zEF,zEG,zBq,zA9,zPH av21 hv,st15,st16,zAV]
    refine zVU λh' hc=>?_
    have a':=a16.closed hc
    have e':=e16.closed hc
    rw[zPH a' hv,zAa,e'.ld (i:=0) rfl,zAa]
    exact⟨.inl ⟨v,hv,hok,hsh',rfl⟩,zHW ((hI21.k.fresh k15 λb hb=>by omega).fresh k16 λb hb=>by omega) hc⟩
  ·have hs0:=of_decide_eq_true hse
   simp only[e0,hse,zA8,zAe,zAd,zAO,zAT,zAv,zAl,zAa,if_true,if_false,zAb,zAc,decide_true,decide_false,reduceCtorEq,zBQ,zEH,zEI,zEE,zEF,zEG,zBq,zA9]
   exact fail h hI λw hw hok hs=>zZt hw hok (by rw[hs];exact hs0)
 ·rintro c h hsz ⟨rfl,x1,x2,x3,x4⟩
  refine .inr ⟨rfl,zVU λh' hc=>?_⟩
  have a':=x1.closed hc
  have e':=x2.closed hc
  rw[zPH a' zGZ,zAa,e'.ld (i:=0) rfl,zAa]
  refine⟨.inr ⟨λw hw hok hs=>?_,rfl⟩,zHW x4 hc⟩
  have:=zUE hw hok
  rw[hs]at this;omega
def zAbn:List Nat:=List.replicate 3 0++[2]
theorem zAcs:eqK prg zAU = .flat zAbn:=by kernel_rfl
theorem zVV {x y:Ver}(hx:x.wf)(hy:y.wf):zCL zAbn (zED x) (zED y)=some (decide (x=y)):=by
 have h1:zCL (List.replicate 3 0) (zCn .i64 x.p) (zCn .i64 y.p)=some (decide (x.p=y.p)):=by
  have:=zSM (k := .i64) (l:=x.p) (m:=y.p) (by rw[hx.p3,hy.p3])
  rwa [hx.p3]at this
 have h2:=zKQ (k1:=List.replicate 3 0) (k2:=[2]) (a1:=zCn .i64 x.p) (b1:=zCn .i64 y.p) (a2:=[str x.pre]) (b2:=[str y.pre]) (by simp[hx.p3]) (by simp[hy.p3]) h1 zMN
 unfold zAbn zED
 rw[h2]
 congr 1
 rw[zA4]
 simp only[zAk,decide_eq_true_eq]
 cases x;cases y;simp
theorem zAe1 {x y:Ver}(hx:x.wf)(hy:y.wf):zAC (eqK prg zAU) .eql (.agg (zED x).toArray) (.agg (zED y).toArray)=some (.bool (decide (x=y))):=by
 rw[zTH,zAcs]
 show(zCL zAbn (zED x).toArray.toList (zED y).toArray.toList).map Value.bool=_
 rw[zBC,zBC,zVV hx hy];rfl
theorem zAlp {x y:Ver}(hx:x.wf)(hy:y.wf):zAC (eqK prg zAU) .neq (.agg (zED x).toArray) (.agg (zED y).toArray)=some (.bool (!decide (x=y))):=by
 rw[zOp,zAcs]
 show(zCL zAbn (zED x).toArray.toList (zED y).toArray.toList).map (λb=>Value.bool (!b))=_
 rw[zBC,zBC,zVV hx hy];rfl
structure zSO where
 op:List UInt8
 ver:Ver
instance:DecidableEq zSO:=λa b=>decidable_of_iff (a.op=b.op/\a.ver=b.ver) (by cases a;cases b;simp)
structure zSO.wf (w:zSO):Prop where
 ver:w.ver.wf
 op:w.op.length<=9223372036854775807
def zFf (w:zSO):List Value:=str w.op::zED w.ver
theorem zF8 {w:zSO}(h:w.wf):(zFf w).length=5:=by simp[zFf,zDL h.ver]
theorem zT1 {w:zSO}:∀ c∈zFf w,c.oneCell'=true:=by
 intro c hc
 rcases zAr.1 hc with rfl|hc
 ·rfl
 ·exact zMe c hc
def zVW:zSO:=⟨[],zEQ⟩
theorem zTb:zVW.wf:=⟨zGZ,by simp[zVW]⟩
section
variable {h:zAw} {q:Nat} {w:zSO}
theorem zZC (a:At h q (zFf w))(hw:w.wf):ldN 5 h (Ptr q 0)=some (.agg (zFf w).toArray):=a.ldN (zF8 hw)
theorem zVX (a:At h q (zFf w)):ld1 h (Ptr q 0)=some (str w.op):=a.ld rfl
theorem zRv (a:At h q (zFf w))(hw:w.wf):ldN 4 h (Ptr q 1)=some (.agg (zED w.ver).toArray):=by
 obtain⟨T,a⟩:=a
 exact ldN_mid (A:=[str w.op]) (B:=zED w.ver) (C:=[]) (by rw[zAN];exact a) rfl (zDL hw.ver).symm
end
theorem zAe2:eqK prg zBL = .flat ([2]++zAbn):=by kernel_rfl
theorem zAe3 {x y:zSO}(hx:x.wf)(hy:y.wf):zCL ([2]++zAbn) (zFf x) (zFf y)=some (decide (x=y)):=by
 have h2:=zKQ (k1:=[2]) (k2:=zAbn) (a1:=[str x.op]) (b1:=[str y.op]) (a2:=zED x.ver) (b2:=zED y.ver) rfl rfl zMN (zVV hx.ver hy.ver)
 show zCL ([2]++zAbn) ([str x.op]++zED x.ver) ([str y.op]++zED y.ver)=_
 rw[h2]
 congr 1
 rw[zA4]
 simp only[zAk,decide_eq_true_eq]
 cases x;cases y;simp
theorem zAjJ {x y:zSO}(hx:x.wf)(hy:y.wf):zAC (eqK prg zBL) .eql (.agg (zFf x).toArray) (.agg (zFf y).toArray)=some (.bool (decide (x=y))):=by
 rw[zTH,zAe2]
 show(zCL ([2]++zAbn) (zFf x).toArray.toList (zFf y).toArray.toList).map Value.bool=_
 rw[zBC,zBC,zAe3 hx hy];rfl
def zZD:List (List UInt8):=[[33,61],[60,61],[62,61],[61],[60],[62],[94],[42]]
def zQR (H:zAw):Prop:=∃ T f,H[zEq]? = some (.cells (zZD.map str).toArray T f)
theorem zQR.keep {S:zA2}{H H':zAw}(h:zQR H)(k:Keep S H H')(hs:∀ b,S b->NG<=b):zQR H':=by
 obtain⟨T,f,h⟩:=h
 exact⟨T,f,k.at h λh=>absurd (hs _ h) (by decide)⟩
theorem zAe4 {op:List UInt8}:op∈zZD↔op∈zAeU\/op=[42]:=by
 unfold zZD zAeU
 simp only[zAr,zCG,or_false]
 constructor
 ·rintro(h|h|h|h|h|h|h|h)<;>simp[h]
 ·rintro((h|h|h|h|h|h|h)|h)<;>simp[h]
theorem zAaF {H:zAw}{op:List UInt8}(hO:zQR H):zAz prg zEk [.slice (some ⟨zEq,0,none⟩) 8 8,str op] H λu H'=>u = .bool (decide (op∈zZD))/\H=H':=by
 apply zHD
 unfold zFL
 refine zAJ (R:=λu H'=>(∃ i:Int,u = .int .i64 i/\(decide (i>=0)=decide (op∈zZD)))/\H=H') ?_ ?_
 ·apply zIl
  unfold zGE
  obtain⟨T,f,hO⟩:=hO
  refine zNW (λu h=>op∉zZD/\H=h) (λk2 hk2=>?_) ?_
  ·rw[zKB,zAa]
   refine zKa (λu h=>∃ i:Nat,i<=8/\u = .int .i64 (i:Nat)/\op∉zZD.take i/\H=h) (λu _=>match u with | .int _ t=>8-t.toNat|_=>0) ⟨0,by omega,rfl,by simp,rfl⟩ ?_
   rintro _ _ ⟨i,hi,rfl,hn,rfl⟩ k hk
   have e8:((8:Nat):Int)=8:=rfl
   simp only[e8,zAH,zC3,zAa,zAl,decide_eq_true_eq]
   by_cases hlt:(i:Int)<8
   ·rw[if_pos hlt]
    have hl:zZD.length=8:=rfl
    have hx:zZD[i]? = some (zZD[i]'(by omega)):=zAj _
    generalize (zZD[i]'(by omega))=x at hx
    have e1:ixS 1 (.slice (some ⟨zEq,0,none⟩) 8 8) (.int .i64 (i:Nat))=some (Ptr zEq i):=by
     simp only[ixS];rw[if_pos ⟨by omega,by omega⟩];simp
    have e2:ld1 H (Ptr zEq i)=some (str x):=zRO hO (by simp[hx])
    have hinc:IntKind.i64.wrap ((i:Int)+1)=(i+1:Nat):=by rw[zB9]<;>omega
    simp only[e1,e2,zAa,zDG,zAl,zAH,zC3,hinc,decide_eq_true_eq]
    by_cases hxo:op=x
    ·rw[if_pos hxo]
     refine⟨⟨i,rfl,?_⟩,by trivial⟩
     rw[decide_eq_true (show op∈zZD from hxo ▸ zAB hx),decide_eq_true (by omega)]
    ·rw[if_neg hxo]
     refine hk _ _ ⟨i+1,by omega,rfl,?_,rfl⟩ (by show 8-(i+1)<8-i;omega)
     rw[zAI,hx]
     simp only[Option.toList_some,zAt,zAF,not_or]
     exact⟨hn,hxo⟩
   ·rw[if_neg hlt]
    rw[zAs (by show 8<=i;omega)]at hn
    exact hk2 _ _ ⟨hn,rfl⟩
  rintro _ _ ⟨hn,rfl⟩
  exact⟨⟨-1,rfl,by rw[decide_eq_false hn];rfl⟩,rfl⟩
 ·rintro _ _ ⟨⟨i,rfl,hi⟩,rfl⟩
  simp only[zAH,zC3,zAa,hi]
  exact⟨by trivial,by trivial⟩
def zHX (w:zSO):Bool:=bif decide (w.op=[42]) then decide (w.ver=zEQ) else decide (w.op∈zAeU)&&zGl w.ver
theorem zMP {H:zAw}{w:zSO}(hw:w.wf)(hO:zQR H):zAz prg zDO [.agg (zFf w).toArray] H λu H'=>u = .bool (zHX w)/\Keep zAM H H':=by
 apply zMy
 unfold zK5
 simp only[zB1,zBa]
 generalize hH1:H.push (.cells (zFf w).toArray zBL (0,0))=H1
 have k1:Keep zAM H H1:=by rw[<- hH1];exact Keep.push
 have a1:At H1 H.size (zFf w):=by rw[<- hH1];exact At.push
 have es:=λq=>zDG (q:=q) (a:=w.op) (b:=[42])
 have sl:slA 8 1 (.pointer (some ⟨zEq,0,none⟩)) none none none=some (.slice (some ⟨zEq,0,none⟩) 8 8):=by simp[slA,zM9,bnd]
 unfold zHX
 cases hs:decide (w.op=[42])<;>simp only[zBf,zAg,zVX a1,zRv a1 hw,es,hs,zAlm,zAe1 hw.ver zGZ,sl,zA8,zAe,zAd,zAO,zAT,zAv,zAl,zAa,if_true,if_false,zAb,zAc,decide_true,decide_false,reduceCtorEq,zBQ,zEH,zEI,zEE,zEF,zEG,zBq,zA9,cond_true,cond_false]
 ·refine zAJ (zAaF (hO.keep k1 λ_ h=>h.elim)) ?_
  rintro _ _ ⟨rfl,rfl⟩
  have hm:decide (w.op∈zZD)=decide (w.op∈zAeU):=by
   rw[decide_eq_decide,zAe4]
   exact⟨λh=>h.resolve_right (of_decide_eq_false hs),.inl⟩
  rw[hm]
  cases hr:decide (w.op∈zAeU)<;>simp only[zA8,zAe,zAd,zAO,zAT,zAv,zAl,zAa,if_true,if_false,zAb,zAc,decide_true,decide_false,reduceCtorEq,zBQ,zEH,zEI,zEE,zEF,zEG,zBq,zA9,zBf,zAg,zRv a1 hw,zA1,zBh]
  ·exact⟨by trivial,k1⟩
  ·refine zAJ (zPY hw.ver) ?_
   rintro _ h2 ⟨rfl,k2⟩
   simp only[zA8,zAe,zAd,zAO,zAT,zAv,zAl,zAa,if_true,if_false,zAb,zAc,decide_true,decide_false,reduceCtorEq,zBQ,zEH,zEI,zEE,zEF,zEG,zBq,zA9]
   exact⟨by trivial,k1.trans k2⟩
 ·exact⟨by trivial,k1⟩
theorem zAe5 {op:List UInt8}(h:op∈zAeU):op.length<=2:=by
 unfold zAeU at h
 simp only[zAr,zCG,or_false]at h
 rcases h with h|h|h|h|h|h|h<;>simp[h]
def zT2 (w:zSO):List UInt8:=bif zHX w then (bif decide (w.op=[42]) then [42] else w.op++zEf w.ver) else []
theorem zW3 {w:zSO}(h:zHX w=true)(hs:decide (w.op=[42])=false):w.op∈zAeU/\zGl w.ver=true:=by
 unfold zHX at h
 rw[hs,cond_false,zAk,decide_eq_true_eq]at h
 exact h
theorem zAaG {H:zAw}{w:zSO}(hw:w.wf)(hO:zQR H)(hT:zWi H):zAz prg zFx [.agg (zFf w).toArray] H λu H'=>u=str (zT2 w)/\Keep zAM H H':=by
 apply zM2
 unfold zLK
 simp only[zB1,zBa]
 generalize hH1:H.push (.cells (zFf w).toArray zBL (0,0))=H1
 have k1:Keep zAM H H1:=by rw[<- hH1];exact Keep.push
 have a1:At H1 H.size (zFf w):=by rw[<- hH1];exact At.push
 rw[show(Value.pointer (some ⟨H.size,0,none⟩))=Ptr H.size 0 from rfl,zZC a1 hw,zAa]
 refine zAJ (zMP hw (hO.keep k1 λ_ h=>h.elim)) ?_
 rintro _ h2 ⟨rfl,k2⟩
 have a2:=a1.keep k2 id
 have k12:=k1.trans k2
 have es:=λq=>zDG (q:=q) (a:=w.op) (b:=[42])
 unfold zT2
 cases hok:zHX w<;>simp only[zA8,zAe,zAd,zAO,zAT,zAv,zAl,zAa,if_true,if_false,zAb,zAc,decide_true,decide_false,reduceCtorEq,zBQ,zEH,zEI,zEE,zEF,zEG,zBq,zA9,cond_true,cond_false]
 ·exact⟨by trivial,k12⟩
 ·cases hs:decide (w.op=[42])<;>simp only[zBf,zAg,zVX a2,zRv a2 hw,es,hs,zA8,zAe,zAd,zAO,zAT,zAv,zAl,zAa,if_true,if_false,zAb,zAc,decide_true,decide_false,reduceCtorEq,zBQ,zEH,zEI,zEE,zEF,zEG,zBq,zA9,cond_true,cond_false]
  ·refine zAJ (zPG hw.ver (hT.keep k12 λ_ h=>h.elim)) ?_
   rintro _ h3 ⟨rfl,k3⟩
   have a3:=a2.keep k3 id
   obtain⟨hr,hv⟩:=zW3 hok hs
   have l1:=zAe5 hr
   have l2:=zHV (v:=w.ver) hw.ver.p3
   simp only[zVX a3,zTX (show w.op.length+(zEf w.ver).length<=9223372036854775807 by omega),zA8,zAe,zAd,zAO,zAT,zAv,zAl,zAa,if_true,if_false,zAb,zAc,decide_true,decide_false,reduceCtorEq,zBQ,zEH,zEI,zEE,zEF,zEG,zBq,zA9]
   exact⟨by trivial,k12.trans k3⟩
  ·exact⟨by trivial,k12⟩
theorem zZE {H:zAw}{q r n c c':Nat}{v w:Ver}(hv:v.wf)(hw:w.wf)(a:At H q (zED v))(b:At H r (zED w))(hn:n<=3) :
  zAz prg zGu [.slice (some ⟨q,0,none⟩) n c,.slice (some ⟨r,0,none⟩) n c'] H λu H'=>u = .bool (decide (v.p.take n=w.p.take n))/\H=H':=by
 apply zKG
 unfold zIB
 have hp3:=hv.p3
 have hq3:=hw.p3
 have e0:zAC .no .neq (.int .i64 (n:Nat)) (.int .i64 (n:Nat))=some (.bool false):=by rw[zAH];simp[zC3]
 simp only[zKB,e0,zA8,zAe,zAd,zAO,zAT,zAv,zAl,zAa,if_true,if_false,zAb,zAc,decide_true,decide_false,reduceCtorEq,zBQ,zEH,zEI,zEE,zEF,zEG,zBq,zA9]
 refine zKa (λu h=>∃ i:Nat,i<=n/\u = .int .i64 (i:Nat)/\v.p.take i=w.p.take i/\H=h) (λu _=>match u with | .int _ t=>n-t.toNat|_=>0) ⟨0,by omega,rfl,rfl,rfl⟩ ?_
 rintro _ _ ⟨i,hi,rfl,ht,rfl⟩ k hk
 simp only[zAH,zC3,zAa,zAl,decide_eq_true_eq]
 by_cases hlt:(i:Int)<n
 ·rw[if_pos hlt]
  have h1:v.p[i]? = some (v.p[i]'(by omega)):=zAj _
  have h2:w.p[i]? = some (w.p[i]'(by omega)):=zAj _
  generalize (v.p[i]'(by omega))=x at h1
  generalize (w.p[i]'(by omega))=y at h2
  have hinc:IntKind.i64.wrap ((i:Int)+1)=(i+1:Nat):=by rw[zB9]<;>omega
  have i1:ixS 1 (.slice (some ⟨q,0,none⟩) n c) (.int .i64 (i:Nat))=some (Ptr q i):=by
   simp only[ixS];rw[if_pos ⟨by omega,by omega⟩];simp
  have i2:ixS 1 (.slice (some ⟨r,0,none⟩) n c') (.int .i64 (i:Nat))=some (Ptr r i):=by
   simp only[ixS];rw[if_pos ⟨by omega,by omega⟩];simp
  simp only[i1,i2,zAa,zRu a h1,zRu b h2,zAH,zC3,zAl,hinc,bne_iff_ne,ne_eq]
  by_cases hxy:x=y
  ·subst hxy
   rw[if_neg (by simp)]
   exact hk _ _ ⟨i+1,by omega,rfl,zZv ht h1 h2,rfl⟩ (by show n-(i+1)<n-i;omega)
  ·rw[if_pos hxy]
   refine⟨?_,by trivial⟩
   rw[decide_eq_false]
   intro he
   have:=congrArg (·[i]?) he
   simp only[zCl]at this
   rw[if_pos (by omega),if_pos (by omega),h1,h2]at this
   exact hxy (zAK this)
 ·rw[if_neg hlt]
  obtain rfl:i=n:=by omega
  exact⟨by rw[decide_eq_true ht],by trivial⟩
theorem zAjK {H:zAw}{w v:Ver}(hw:w.wf)(hv:v.wf):zAz prg zNu [.agg (zED w).toArray,.agg (zED v).toArray] H λu H'=>u = .bool ((vp0 v == vp0 w)&&(vp0 w != 0 || vp1 v == vp1 w))/\Keep zAM H H':=by
 apply zPy
 unfold zPx
 simp only[zB1,zBa]
 generalize hH1:H.push (.cells (zED w).toArray zAU (0,0))=H1
 have k1:Keep zAM H H1:=by rw[<- hH1];exact Keep.push
 have a1:At H1 H.size (zED w):=by rw[<- hH1];exact At.push
 generalize hH2:H1.push (.cells (zED v).toArray zAU (0,0))=H2
 have k2:Keep zAM H1 H2:=by rw[<- hH2];exact Keep.push
 have b2:At H2 H1.size (zED v):=by rw[<- hH2];exact At.push
 have a2:=a1.keep k2 id
 have kk:=k1.trans k2
 obtain⟨x,y,z,hp⟩:=Ver.cases3 hv
 obtain⟨x',y',z',hp'⟩:=Ver.cases3 hw
 have px':ld1 H2 (Ptr H.size 0)=some (.int .i64 x'):=zRu a2 (i:=0) (by rw[hp'];rfl)
 have p0v:vp0 v=x:=by unfold vp0;rw[hp];rfl
 have p1v:vp1 v=y:=by unfold vp1;rw[hp];rfl
 have p0w:vp0 w=x':=by unfold vp0;rw[hp'];rfl
 have p1w:vp1 w=y':=by unfold vp1;rw[hp'];rfl
 have sl2:∀ q:Nat,slA 3 1 (Ptr q 0) none (some (.int .i64 2)) none=some (.slice (some ⟨q,0,none⟩) 2 3):=λq=>by simp[slA,zM9,bnd]
 have sl1:∀ q:Nat,slA 3 1 (Ptr q 0) none (some (.int .i64 1)) none=some (.slice (some ⟨q,0,none⟩) 1 3):=λq=>by simp[slA,zM9,bnd]
 rw[p0v,p1v,p0w,p1w]
 cases h0:(x' == 0)<;>simp only[zBf,zAg,ix0,px',zAH,zC3,h0,sl1,sl2,zA8,zAe,zAd,zAO,zAT,zAv,zAl,zAa,if_true,if_false,zAb,zAc,decide_true,decide_false,reduceCtorEq,zBQ,zEH,zEI,zEE,zEF,zEG,zBq,zA9]
 ·refine zAJ (zZE hw hv a2 b2 (n:=1) (by omega)) ?_
  rintro _ _ ⟨rfl,rfl⟩
  refine⟨?_,kk⟩
  congr 1
  have h0':x'≠0:=by simpa using h0
  rw[hp,hp',show List.take 1 [x',y',z']=[x'] from rfl,show List.take 1 [x,y,z]=[x] from rfl,zA4]
  simp only[decide_eq_true_eq,List.cons.injEq,and_true,zAk,beq_iff_eq,zB4,bne_iff_ne,ne_eq,h0',not_false_eq_true,true_or]
  exact⟨Eq.symm,Eq.symm⟩
 ·refine zAJ (zZE hw hv a2 b2 (n:=2) (by omega)) ?_
  rintro _ _ ⟨rfl,rfl⟩
  refine⟨?_,kk⟩
  congr 1
  have h0':x'=0:=by simpa using h0
  rw[hp,hp',show List.take 2 [x',y',z']=[x',y'] from rfl,show List.take 2 [x,y,z]=[x,y] from rfl,zA4]
  simp only[decide_eq_true_eq,List.cons.injEq,and_true,zAk,beq_iff_eq,zB4,bne_iff_ne,ne_eq,h0',not_true_eq_false,false_or]
  exact⟨λh=>⟨h.1.symm,h.2.symm⟩,λh=>⟨h.1.symm,h.2.symm⟩⟩
theorem zSg {H:zAw}{w:zSO}{v:Ver}(hw:w.wf)(hv:v.wf)(hO:zQR H):zAz prg zFv [.agg (zFf w).toArray,.agg (zED v).toArray] H λu H'=>u = .bool (zHX w&&zGl v&&zYm w.op w.ver v)/\Keep zAM H H':=by
 apply zM3
 unfold zLL
 simp only[zB1,zBa]
 generalize hH1:H.push (.cells (zFf w).toArray zBL (0,0))=H1
 have k1:Keep zAM H H1:=by rw[<- hH1];exact Keep.push
 have a1:At H1 H.size (zFf w):=by rw[<- hH1];exact At.push
 generalize hH2:H1.push (.cells (zED v).toArray zAU (0,0))=H2
 have k2:Keep zAM H1 H2:=by rw[<- hH2];exact Keep.push
 have b2:At H2 H1.size (zED v):=by rw[<- hH2];exact At.push
 have a2:=a1.keep k2 id
 have k02:=k1.trans k2
 rw[show(Value.pointer (some ⟨H.size,0,none⟩))=Ptr H.size 0 from rfl,zZC a2 hw,zAa]
 refine zAJ (zMP hw (hO.keep k02 λ_ h=>h.elim)) ?_
 rintro _ h3 ⟨rfl,k3⟩
 have a3:=a2.keep k3 id
 have b3:=b2.keep k3 id
 have k03:=k02.trans k3
 cases hok:zHX w<;>simp only[zA8,zAe,zAd,zAO,zAT,zAv,zAl,zAa,if_true,if_false,zAb,zAc,decide_true,decide_false,reduceCtorEq,zBQ,zEH,zEI,zEE,zEF,zEG,zBq,zA9,zA1,zBh,zPH b3 hv]
 ·exact⟨by trivial,k03⟩
 refine zAJ (zPY hv) ?_
 rintro _ h4 ⟨rfl,k4⟩
 have a4:=a3.keep k4 id
 have b4:=b3.keep k4 id
 have k04:=k03.trans k4
 cases hvo:zGl v<;>simp only[zA8,zAe,zAd,zAO,zAT,zAv,zAl,zAa,if_true,if_false,zAb,zAc,decide_true,decide_false,reduceCtorEq,zBQ,zEH,zEI,zEE,zEF,zEG,zBq,zA9,zBf,zAg,zPH b4 hv,zRv a4 hw,zA1,zBh]
 ·exact⟨by trivial,k04⟩
 refine zAJ (zAjF hv hw.ver) ?_
 rintro _ h7 ⟨rfl,k7⟩
 have a7:=a4.keep k7 id
 have b7:=b4.keep k7 id
 have kk:=k04.trans k7
 have e1:=λq=>zDG (q:=q) (a:=w.op) (b:=[61])
 have e2:=λq=>zDG (q:=q) (a:=w.op) (b:=[33,61])
 have e3:=λq=>zDG (q:=q) (a:=w.op) (b:=[60])
 have e4:=λq=>zDG (q:=q) (a:=w.op) (b:=[60,61])
 have e5:=λq=>zDG (q:=q) (a:=w.op) (b:=[62])
 have e6:=λq=>zDG (q:=q) (a:=w.op) (b:=[62,61])
 have e7:=λq=>zDG (q:=q) (a:=w.op) (b:=[94])
 have ht:=zP1.turn v w.ver
 have l1:ltV v w.ver=decide (zAd6 v w.ver<0):=rfl
 have l2:ltV w.ver v=decide (0<zAd6 v w.ver):=by unfold ltV;rw[decide_eq_decide];omega
 unfold zYm
 rw[l1,l2]
 generalize zAd6 v w.ver=c
 simp only[zVX a7,zAa]
 rw[e1,zAa]
 cases h1:decide (w.op=[61])
 rotate_left
 ·simp only[zA8,zAe,zAd,zAO,zAT,zAv,zAl,zAa,if_true,if_false,zAb,zAc,decide_true,decide_false,reduceCtorEq,zBQ,zEH,zEI,zEE,zEF,zEG,zBq,zA9,zAH,zC3,cond_true]
  refine⟨?_,kk⟩
  congr 1;rw[zA4];simp;omega
 rw[zAl,if_neg (by decide),e2,zAa]
 cases h2:decide (w.op=[33,61])
 rotate_left
 ·simp only[zA8,zAe,zAd,zAO,zAT,zAv,zAl,zAa,if_true,if_false,zAb,zAc,decide_true,decide_false,reduceCtorEq,zBQ,zEH,zEI,zEE,zEF,zEG,zBq,zA9,zAH,zC3,cond_true,cond_false]
  refine⟨?_,kk⟩
  congr 1;rw[zA4];simp;omega
 rw[zAl,if_neg (by decide),e3,zAa]
 cases h3:decide (w.op=[60])
 rotate_left
 ·simp only[zA8,zAe,zAd,zAO,zAT,zAv,zAl,zAa,if_true,if_false,zAb,zAc,decide_true,decide_false,reduceCtorEq,zBQ,zEH,zEI,zEE,zEF,zEG,zBq,zA9,zAH,zC3,cond_true,cond_false];exact⟨by trivial,kk⟩
 rw[zAl,if_neg (by decide),e4,zAa]
 cases h4':decide (w.op=[60,61])
 rotate_left
 ·simp only[zA8,zAe,zAd,zAO,zAT,zAv,zAl,zAa,if_true,if_false,zAb,zAc,decide_true,decide_false,reduceCtorEq,zBQ,zEH,zEI,zEE,zEF,zEG,zBq,zA9,zAH,zC3,cond_true,cond_false]
  refine⟨?_,kk⟩
  congr 1;rw[zA4];simp
 rw[zAl,if_neg (by decide),e5,zAa]
 cases h5:decide (w.op=[62])
 rotate_left
 ·simp only[zA8,zAe,zAd,zAO,zAT,zAv,zAl,zAa,if_true,if_false,zAb,zAc,decide_true,decide_false,reduceCtorEq,zBQ,zEH,zEI,zEE,zEF,zEG,zBq,zA9,zAH,zC3,cond_true,cond_false];exact⟨by trivial,kk⟩
 rw[zAl,if_neg (by decide),e6,zAa]
 cases h6:decide (w.op=[62,61])
 rotate_left
 ·simp only[zA8,zAe,zAd,zAO,zAT,zAv,zAl,zAa,if_true,if_false,zAb,zAc,decide_true,decide_false,reduceCtorEq,zBQ,zEH,zEI,zEE,zEF,zEG,zBq,zA9,zAH,zC3,cond_true,cond_false]
  refine⟨?_,kk⟩
  congr 1;rw[zA4];simp
 rw[zAl,if_neg (by decide),e7,zAa]
 cases h7:decide (w.op=[94])
 rotate_left
 ·have hge:(c>=0)↔¬ (c<0):=by omega
  have hd:decide (c>=0) = !decide (c<0):=by rw[zA4];simp
  cases hc:decide (c<0)<;>rw[hc]at hd<;>simp only[zA8,zAe,zAd,zAO,zAT,zAv,zAl,zAa,if_true,if_false,zAb,zAc,decide_true,decide_false,reduceCtorEq,zBQ,zEH,zEI,zEE,zEF,zEG,zBq,zA9,zBf,zAg,zAH,zC3,hd,zRv a7 hw,zPH b7 hv,cond_true,cond_false,zA1,zBh]
  ·refine zAJ (zAjK hw.ver hv) ?_
   rintro _ h9 ⟨rfl,k9⟩
   simp only[zA8,zAe,zAd,zAO,zAT,zAv,zAl,zAa,if_true,if_false,zAb,zAc,decide_true,decide_false,reduceCtorEq,zBQ,zEH,zEI,zEE,zEF,zEG,zBq,zA9]
   exact⟨by trivial,kk.trans k9⟩
  ·exact⟨by trivial,kk⟩
 ·simp only[zA8,zAe,zAd,zAO,zAT,zAv,zAl,zAa,if_true,if_false,zAb,zAc,decide_true,decide_false,reduceCtorEq,zBQ,zEH,zEI,zEE,zEF,zEG,zBq,zA9,cond_false];exact⟨by trivial,kk⟩
theorem zAct {α:Type}{f:α->Bool}:∀ {l:List α} {i:Nat} {x:α},(∀ p∈l.take i,f p=false)->l[i]? = some x->f x=true->l.find? f=some x
 | [],i,x,_,h,_=>by simp at h
 | y::l,0,x,_,h,hx=>by
  obtain rfl:y=x:=by simpa using h
  simp[List.find?,hx]
 | y::l,i+1,x,h1,h,hx=>by
  have hy:=h1 y (by simp)
  simp only[List.find?,hy]
  exact zAct (i:=i) (λp hp=>h1 p (by rw[zBT];exact zCW _ hp)) (by simpa using h) hx
theorem zAjL:zBE prg zBL=some (zFf zVW).toArray:=by kernel_rfl
theorem zAgp:zMu prg zBL=some ([(0,1),(1,4)],(zFf zVW).toArray):=by kernel_rfl
theorem b_W {op:List UInt8}:zCV prg zBL [(0,str op)]=some (.agg (zFf ⟨op,zEQ⟩).toArray):=by rw[zIv zAgp];rfl
theorem zAmR:zCV prg zBL []=some (.agg (zFf zVW).toArray):=by kernel_rfl
structure zZF (H:zAw):Prop where
 err:zAeY H
 pow:zWi H
 ops:zQR H
theorem zZF.keep {S:zA2}{H H':zAw}(h:zZF H)(k:Keep S H H')(hs:∀ b,S b->NG<=b):zZF H':=⟨h.err.keep k hs,h.pow.keep k hs,h.ops.keep k hs⟩
end Go.Proofs.YticdfkoncnnmmaaGreatDoor
