import Derived.Test.YticdfkoncnnmmaaGreatDoorGU
import Derived.Test.YticdfkoncnnmmaaGreatDoorGI
set_option linter.unusedSimpArgs false
set_option linter.unusedVariables false
set_option maxRecDepth 100000
namespace Go.Proofs.YticdfkoncnnmmaaGreatDoor
open Go.X Go.X.Diff
structure zAfn (H:zAx):Prop where
 syn:∃ T x t f,H[zDy]? = some (.cells #[.iface T x] t f)
 rng:∃ T x t f,H[zDG]? = some (.cells #[.iface T x] t f)
theorem zAfn.keep {S:zA1}{H H':zAx}(h:zAfn H)(k:Keep S H H')(hs:∀ b,S b->NG<=b):zAfn H':=by
 obtain⟨⟨T,x,t,f,h1⟩,⟨T',x',t',f',h2⟩⟩:=h
 exact⟨⟨T,x,t,f,k.at h1 λh=>absurd (hs _ h) (by decide)⟩,⟨T',x',t',f',k.at h2 λh=>absurd (hs _ h) (by decide)⟩⟩
theorem zKB {k:Int}:mkI prg zBO (.int .i64 k)=some (.iface zBO (.int .i64 k)):=by
 have h:∃ d,prg.underlying zBO=some (.int d):=⟨.i64,by kernel_rfl⟩
 obtain⟨d,h⟩:=h
 unfold mkI;rw[h]
theorem zAae:zVW prg zBO=true:=by kernel_rfl
abbrev err (k:Int):Value := .iface zBO (.int .i64 k)
theorem zAgQ {a b:Int}{lit:Bool}:zAB (.ifc (zVW prg) lit) .eql (err a) (err b)=some (.bool (a == b)):=by
 show((bif Nat.beq zBO zBO then (bif zVW prg zBO then (if IntKind.i64=IntKind.i64 then some (a == b) else none) else none) else some false)).map Value.bool=_
 rw[zAae,zB1];rfl
theorem zAgR {a b:Int}{lit:Bool}:zAB (.ifc (zVW prg) lit) .neq (err a) (err b)=some (.bool (!(a == b))):=by
 show((bif Nat.beq zBO zBO then (bif zVW prg zBO then (if IntKind.i64=IntKind.i64 then some (a == b) else none) else none) else some false)).map (λb=>Value.bool (!b))=_
 rw[zAae,zB1];rfl
theorem zWt {a:Int}{lit:Bool}:zAB (.ifc (zVW prg) lit) .neq (err a) .nilIface=some (.bool true):=rfl
theorem zY0:zAB (.ifc (zVW prg) true) .neq .nilIface .nilIface=some (.bool false):=rfl
theorem zAaf {H:zAx}{l:List UInt8}(hl:l.length<=1048576):zAA prg zEg [str l] H λu H'=>u=str l/\Keep zAK H H':=by
 apply zJd
 unfold zHg
 have e0:zAB .no .eql (.int .i64 (l.length:Nat)) (.int .i64 0)=some (.bool (decide (l=[]))):=by
  rw[zAJ];simp only[zC8];congr 2;rw[zAR];simp
 simp only[zFu,zAa,e0]
 cases hx:decide (l=[])<;>simp only[zA7,zAg,zAf,zAQ,zAU,zAv,zAl,zAa,if_true,if_false,zAb,zAc,decide_true,decide_false,reduceCtorEq,zBT,zEL,zEM,zEI,zEJ,zEK,zBp,zA8]
 rotate_left
 ·rw[of_decide_eq_true hx];exact⟨by trivial,Keep.refl⟩
 have hne:=of_decide_eq_false hx
 have hpos:0<l.length:=List.length_pos_iff.2 hne
 obtain⟨z,hz,hzs⟩:∃ z,zBI prg zCl=some z/\z=#[Value.int .u8 0]:=⟨_,by kernel_rfl,rfl⟩
 have hb:prg.bytesOf zCl=1:=by kernel_rfl
 have hc:prg.cellsOf zCl=1:=by kernel_rfl
 have hi:(prg.info? zCl).isSome=true:=by kernel_rfl
 refine⟨.i64,.i64,l.length,l.length,z,rfl,rfl,zAh _,by rw[hb];omega,by omega,hz,hi,?_⟩
 have hzr:zSo z (l.length*prg.cellsOf zCl)=(zBs (List.replicate l.length 0)).toArray:=by
  rw[hc,zCB,hzs]
  unfold zSo zBs
  apply Array.ext'
  simp only[Array.toList_map,Array.toList_range,List.map_replicate]
  rw[List.eq_replicate_iff]
  refine⟨by simp,λx hx=>?_⟩
  obtain⟨i,_,rfl⟩:=zAo.1 hx
  simp[Nat.mod_one]
 rw[hzr]
 generalize hH1:H.push (.cells (zBs (List.replicate l.length 0)).toArray zCl (0,0))=H1
 have k1:Keep zAK H H1:=by rw[<- hH1];exact Keep.push
 have hq1:H1[H.size]? = some (.cells (zBs (List.replicate l.length 0)).toArray zCl (0,0)):=by rw[<- hH1];exact zCj
 have hcp:=@zAa9 H1 H.size l.length (List.replicate l.length 0) l (str l) zCl
 rw[List.length_replicate]at hcp
 refine hcp hq1 zAgG (zAh _) ?_
 have hcat:l++(List.replicate l.length (0:UInt8)).drop l.length=l:=by simp
 rw[hcat]
 generalize hH2:H1.setIfInBounds H.size (.cells (zBs l).toArray zCl (0,0))=H2
 have k2:Keep (· = H.size) H1 H2:=by rw[<- hH2];exact Keep.set rfl
 have hq2:H2[H.size]? = some (.cells (zBs l).toArray zCl (0,0)):=by rw[<- hH2];exact zBm hq1
 have hix:ixS 1 (.slice (some ⟨H.size,0,none⟩) l.length l.length) (.int .i64 0)=some (Ptr H.size 0):=by
  simp only[ixS];rw[if_pos ⟨by omega,by omega⟩];rfl
 rw[hix,zAa,zKO,zAa]
 intro w hw
 obtain⟨t,ht,hu⟩:=zAj0
 have hsh:w.shape? H.size=some (zCl,(zBs l).toArray.size):=by simp[World.shape?,hw,hq2]
 refine⟨_,_,Lib.run_unsafeString_row w _ _ _ zCl (by rw[ht];exact hu) zAmT H.size (zBs l).toArray.size hsh l hne (by simp) (by omega) ?_,?_,rfl,?_⟩
 ·intro j x hx
  have hlt:=(zAV.1 hx).1
  have e:(⟨H.size,0,none⟩:Addr).add j=⟨H.size,j,none⟩:=by
   unfold Addr.add;split
   ·rename_i h;subst h;rfl
   ·simp
  rw[e]
  unfold World.cell?
  simp only[hw,hq2]
  simp[zBs,hx]
 ·obtain⟨_,_,h3⟩:=zOK (w:=w) (b:=H.size) (n:=l.length)
  refine⟨?_,?_,?_,h3⟩<;>(unfold World.freeze;split<;>rfl)
 ·obtain⟨h1,h2,_⟩:=zOK (w:=w) (b:=H.size) (n:=l.length)
  rw[hw]at h1 h2
  have k3:Keep (· = H.size) H2 (w.freeze ⟨H.size,0,none⟩ l.length).heap:=⟨Nat.le_of_eq h1.symm,λi _ hn=>h2 i hn⟩
  exact(k1.fresh k2 λb hb=>by omega).fresh k3 λb hb=>by omega
theorem zAfo:∃ z,zLM prg zEw=some ([(0,1),(1,1),(2,1)],z)/\z.size=3:=⟨#[str [],str [],.nilIface],by kernel_rfl,rfl⟩
theorem zAag {a b:List UInt8}{T:TypeId}{x:Value}:∃ c,zCM prg zEw [(0,str a),(1,str b),(2,.iface T x)]=some (.agg c):=by
 obtain⟨z,hk,hz⟩:=zAfo
 rw[zHZ hk]
 have s1:(Value.cells (str a)).size=1:=rfl
 have s2:(Value.cells (str b)).size=1:=rfl
 have s3:(Value.cells (.iface T x)).size=1:=rfl
 have l1:(spl z 0 (Value.cells (str a))).size=3:=by rw[zI0 (by rw[s1,hz];omega),hz]
 have l2:(spl (spl z 0 (Value.cells (str a))) 1 (Value.cells (str b))).size=3:=by rw[zI0 (by rw[s2,l1];omega),l1]
 rw[zGH (off:=0) (n:=1) rfl rfl (by omega),zGH (off:=1) (n:=1) rfl rfl (by omega),zGH (off:=2) (n:=1) rfl rfl (by omega),zRK]
 exact⟨_,rfl⟩
theorem zAmW {v:Value}:mkI prg zDU v=some (.iface zDU v):=by
 have h:∃ d,prg.underlying zDU=some (.pointer d):=⟨zEw,by kernel_rfl⟩
 obtain⟨d,h⟩:=h
 unfold mkI;rw[h]
theorem zWu {H:zAx}{a l:List UInt8}(hE:zAfn H)(hl:l.length<=1048576):zAA prg zHU [str a,str l] H λu H'=>Keep zAK H H':=by
 apply zMm
 unfold zKt
 obtain⟨T,x,t,f,h1⟩:=hE.syn
 have e0:ld1 H (.pointer (some ⟨zDy,0,none⟩))=some (.iface T x):=zSp (cs:=[.iface T x]) h1 rfl
 rw[e0,zAa]
 refine zAI (zAaf hl) ?_
 rintro _ h ⟨rfl,k⟩
 have e1:ld1 h (.pointer (some ⟨zDy,0,none⟩))=some (.iface T x):=zSp (cs:=[.iface T x]) (k.at h1 id) rfl
 obtain⟨c,hc⟩:=zAag (a:=a) (b:=l) (T:=T) (x:=x)
 simp only[e1,hc,zA7,zAg,zAf,zAQ,zAU,zAv,zAl,zAa,if_true,if_false,zAb,zAc,decide_true,decide_false,reduceCtorEq,zBT,zEL,zEM,zEI,zEJ,zEK,zBp,zA8,zBb]
 exact k.trans Keep.push
theorem zXJ {H:zAx}{a l:List UInt8}(hE:zAfn H)(hl:l.length<=1048576):zAA prg zIq [str a,str l] H λu H'=>Keep zAK H H':=by
 apply zMQ
 unfold zLm
 obtain⟨T,x,t,f,h1⟩:=hE.rng
 have e0:ld1 H (.pointer (some ⟨zDG,0,none⟩))=some (.iface T x):=zSp (cs:=[.iface T x]) h1 rfl
 rw[e0,zAa]
 refine zAI (zAaf hl) ?_
 rintro _ h ⟨rfl,k⟩
 have e1:ld1 h (.pointer (some ⟨zDG,0,none⟩))=some (.iface T x):=zSp (cs:=[.iface T x]) (k.at h1 id) rfl
 obtain⟨c,hc⟩:=zAag (a:=a) (b:=l) (T:=T) (x:=x)
 simp only[e1,hc,zA7,zAg,zAf,zAQ,zAU,zAv,zAl,zAa,if_true,if_false,zAb,zAc,decide_true,decide_false,reduceCtorEq,zBT,zEL,zEM,zEI,zEJ,zEK,zBp,zA8,zBb]
 exact k.trans Keep.push
def zAkc (e:Value):Prop:=e = .nilIface\/e=err 1\/e=err 2
theorem zXK {H:zAx}{a l:List UInt8}{e:Value}(hE:zAfn H)(hl:l.length<=1048576)(he:e=err 1\/e=err 2) :
  zAA prg zKJ [str a,str l,.int .i64 0,.int .i64 0,e] H λu H'=>Keep zAK H H':=by
 apply zOc
 unfold zNw
 rcases he with rfl|rfl
 ·simp only[zKB,zAgQ,zA7,zAg,zAf,zAQ,zAU,zAv,zAl,zAa,if_true,if_false,zAb,zAc,decide_true,decide_false,reduceCtorEq,zBT,zEL,zEM,zEI,zEJ,zEK,zBp,zA8,show((1:Int) == 2)=false from rfl,show((1:Int) == 1)=true from rfl]
  refine zAI (zXJ hE hl) ?_
  intro u h k
  simp only[zAmW,zA7,zAg,zAf,zAQ,zAU,zAv,zAl,zAa,if_true,if_false,zAb,zAc,decide_true,decide_false,reduceCtorEq,zBT,zEL,zEM,zEI,zEJ,zEK,zBp,zA8]
  exact k
 ·simp only[zKB,zAgQ,zA7,zAg,zAf,zAQ,zAU,zAv,zAl,zAa,if_true,if_false,zAb,zAc,decide_true,decide_false,reduceCtorEq,zBT,zEL,zEM,zEI,zEJ,zEK,zBp,zA8,show((2:Int) == 2)=true from rfl]
  refine zAI (zWu hE hl) ?_
  intro u h k
  simp only[zAmW,zA7,zAg,zAf,zAQ,zAU,zAv,zAl,zAa,if_true,if_false,zAb,zAc,decide_true,decide_false,reduceCtorEq,zBT,zEL,zEM,zEI,zEJ,zEK,zBp,zA8]
  exact k
theorem _root_.Go.X.J3_i {body:(Value->Value->zAm)->Prop}{rest:Value->Value->zAm}(I:Value->Value->zAm)(h1:∀ k:Value->Value->zAm,(∀ x y z h,I x y z h->k x y z h)->body k)(h2:∀ x y z h,I x y z h->rest x y z h):J3 body rest := .mk (h1 rest h2)
theorem _root_.Go.X.J4_i {body:(Value->Value->Value->zAm)->Prop}{rest:Value->Value->Value->zAm}(I:Value->Value->Value->zAm)(h1:∀ k:Value->Value->Value->zAm,(∀ x y z t h,I x y z t h->k x y z t h)->body k)(h2:∀ x y z t h,I x y z t h->rest x y z t h):J4 body rest := .mk (h1 rest h2)
theorem zAih {T:TypeId}{H:zAx}{l:List UInt8}{k:zAm}(hl:l.length<=1099511627776)
  (hk:∀ v h',Sl (· = H.size) h' v l->Keep zAK H h'->k v h'):zAaW T H (str l) k:=by
 refine⟨_,rfl,by rw[zJa];omega,λcap h1 h2=>hk _ _ ?_ Keep.push⟩
 rw[zJa]at h1
 refine⟨?_,⟨_,cap,by rw[zJa],by omega,λx hx=>by cases hx;rfl⟩,λb hb=>by obtain⟨rfl,_⟩:=zHY hb;rfl⟩
 refine Bs.mk zCj zJa (by simp[ByteArray.size]) ?_
 rw[zJa,zB4,Array.toList_append,zBj (by simp),zAr (by simp)]
 simp[zBs]
theorem zSP {H:zAx}{x:Int}:zAA prg zC3 [.int .u8 x] H λu H'=>(∃ y,u = .int .u8 y)/\H=H':=by
 apply zKU
 unfold zIK
 simp only[zAJ,zC8,zAa]
 exact⟨⟨_,rfl⟩,by trivial⟩
def PuR (H:zAx)(u:Value)(H':zAx):Prop:=(∃ n e,u = .tuple #[.int .u64 n,e]/\zAkc e)/\Keep zAK H H'
set_option maxHeartbeats 1000000 in
theorem zY1 {H:zAx}{l:List UInt8}(hl:l.length<=1048576):zAA prg zFs [str l,.int .i64 10,.int .i64 0] H (PuR H):=by
 apply zJc
 unfold zHf
 have f1:zAB .no .eql (.int .i64 10) (.int .i64 0)=some (.bool false):=rfl
 have f2:zAB .no .leq (.int .i64 2) (.int .i64 10)=some (.bool true):=rfl
 have f3:zAB .no .leq (.int .i64 10) (.int .i64 36)=some (.bool true):=rfl
 have f4:zAB .no .eql (.int .i64 0) (.int .i64 0)=some (.bool true):=rfl
 have f5:zAB .no .eql (.int .i64 10) (.int .i64 10)=some (.bool true):=rfl
 have f6:cvI .u64 (.int .i64 64)=some (.int .u64 64):=rfl
 have f7:zAB .no .shl (.int .u64 1) (.int .u64 64)=some (.int .u64 0):=by kernel_rfl
 have f8:zAB .no .sub (.int .u64 0) (.int .u64 1)=some (.int .u64 18446744073709551615):=by kernel_rfl
 have f9:cvI .u8 (.int .i64 10)=some (.int .u8 10):=rfl
 have f10:cvI .u64 (.int .i64 10)=some (.int .u64 10):=rfl
 have e0:=λq=>zDV (q:=q) (a:=l) (b:=[])
 have bad:∀ (k n:Int) (h:zAx),(k=1\/k=2)->Keep zAK H h->PuR H (.tuple #[.int .u64 n,err k]) h:=λk n h hk kk=>⟨⟨n,_,rfl,by rcases hk with rfl|rfl;exact .inr (.inl rfl);exact .inr (.inr rfl)⟩,kk⟩
 rw[e0,zAa,zAl]
 cases hx:decide (l=[])
 rotate_left
 ·rw[if_pos rfl,zKB,zAa]
  exact bad 2 0 H (.inr rfl) Keep.refl
 rw[if_neg (by decide)]
 simp only[f1,f2,f3,f4,f5,f6,f7,f8,zA7,zAg,zAf,zAQ,zAU,zAv,zAl,zAa,if_true,if_false,zAb,zAc,decide_true,decide_false,reduceCtorEq,zBT,zEL,zEM,zEI,zEJ,zEK,zBp,zA8,zAlI]
 refine zAih (by omega) λv h1 hv k1=>?_
 simp only[hv.len,zAa]
 refine zAlK (λt12 t13 t101 h=>t12 = .bool false/\(∃ n,t13 = .int .u64 n)/\(∃ i:Nat,i<=l.length/\t101 = .int .i64 (i:Nat))/\h1=h) (λ_ _ u _=>match u with | .int _ t=>l.length-t.toNat|_=>0) ⟨rfl,⟨0,rfl⟩,⟨0,zAz _,rfl⟩,rfl⟩ ?_
 rintro _ _ _ _ ⟨rfl,⟨n,rfl⟩,⟨i,hi,rfl⟩,rfl⟩ k hk
 have elt:zAB .no .lss (.int .i64 (i:Nat)) (.int .i64 (l.length:Nat))=some (.bool (decide (i<l.length))):=by
  rw[zAJ];simp only[zC8];congr 2;rw[decide_eq_decide];omega
 rw[elt,zAa,zAl]
 by_cases hlt:i<l.length
 ·rw[if_pos (by simpa using hlt)]
  have hg:l[i]? = some l[i]:=zAj hlt
  generalize l[i]=x at hg
  obtain⟨p,hix,hld,_⟩:=hv.at hg
  simp only[hix,hld,zAa]
  refine J4_i (λt12 t13 _ _ h=>t12 = .bool false/\(∃ n,t13 = .int .u64 n)/\h1=h) (λk25 hk25=>?_) ?_
  rotate_left
  ·rintro _ _ _ _ _ ⟨rfl,⟨m,rfl⟩,rfl⟩
   rw[zBV (by omega),zAa]
   exact hk _ _ _ _ ⟨rfl,⟨m,rfl⟩,⟨i+1,by omega,rfl⟩,rfl⟩ (by show l.length-(i+1)<l.length-i;omega)
  ·refine J4_i (λt12 t16 _ _ h=>t12 = .bool false/\(∃ d,t16 = .int .u8 d)/\h1=h) (λk27 hk27=>?_) ?_
   ·simp only[zAJ,zC8,zA7,zAg,zAf,zAQ,zAU,zAv,zAl,zAa,if_true,if_false,zAb,zAc,decide_true,decide_false,reduceCtorEq,zBT,zEL,zEM,zEI,zEJ,zEK,zBp,zA8]
    generalize ((x.toNat:Int) == 95)=b1
    have e2:∀ t:Value,zBD (.bool b1) (if b1=true then .bool false else t) (.bool false)=some (.bool false):=λt=>by cases b1<;>rfl
    cases b1<;>simp only[zA7,zAg,zAf,zAQ,zAU,zAv,zAl,zAa,if_true,if_false,zAb,zAc,decide_true,decide_false,reduceCtorEq,zBT,zEL,zEM,zEI,zEJ,zEK,zBp,zA8]
    all_goals
     cases h48:decide ((48:Int)<=x.toNat)<;>simp only[zA7,zAg,zAf,zAQ,zAU,zAv,zAl,zAa,if_true,if_false,zAb,zAc,decide_true,decide_false,reduceCtorEq,zBT,zEL,zEM,zEI,zEJ,zEK,zBp,zA8]
     ·refine zAI zSP ?_
      rintro _ _ ⟨⟨y,rfl⟩,rfl⟩
      simp only[zAJ,zC8,zA7,zAg,zAf,zAQ,zAU,zAv,zAl,zAa,if_true,if_false,zAb,zAc,decide_true,decide_false,reduceCtorEq,zBT,zEL,zEM,zEI,zEJ,zEK,zBp,zA8]
      cases h97:decide ((97:Int)<=y)<;>simp only[zA7,zAg,zAf,zAQ,zAU,zAv,zAl,zAa,if_true,if_false,zAb,zAc,decide_true,decide_false,reduceCtorEq,zBT,zEL,zEM,zEI,zEJ,zEK,zBp,zA8]
      ·rw[zKB,zAa];exact bad 2 0 _ (.inr rfl) k1
      ·refine zAI zSP ?_
       rintro _ _ ⟨⟨z,rfl⟩,rfl⟩
       simp only[zAJ,zC8,zA7,zAg,zAf,zAQ,zAU,zAv,zAl,zAa,if_true,if_false,zAb,zAc,decide_true,decide_false,reduceCtorEq,zBT,zEL,zEM,zEI,zEJ,zEK,zBp,zA8]
       cases h122:decide (z<=(122:Int))<;>simp only[zA7,zAg,zAf,zAQ,zAU,zAv,zAl,zAa,if_true,if_false,zAb,zAc,decide_true,decide_false,reduceCtorEq,zBT,zEL,zEM,zEI,zEJ,zEK,zBp,zA8]
       ·rw[zKB,zAa];exact bad 2 0 _ (.inr rfl) k1
       ·refine zAI zSP ?_
        rintro _ _ ⟨⟨y2,rfl⟩,rfl⟩
        simp only[zAJ,zC8,zA7,zAg,zAf,zAQ,zAU,zAv,zAl,zAa,if_true,if_false,zAb,zAc,decide_true,decide_false,reduceCtorEq,zBT,zEL,zEM,zEI,zEJ,zEK,zBp,zA8]
        exact hk27 _ _ _ _ _ ⟨rfl,⟨_,rfl⟩,rfl⟩
     ·cases h57:decide ((x.toNat:Int)<=57)<;>simp only[zA7,zAg,zAf,zAQ,zAU,zAv,zAl,zAa,if_true,if_false,zAb,zAc,decide_true,decide_false,reduceCtorEq,zBT,zEL,zEM,zEI,zEJ,zEK,zBp,zA8]
      ·refine zAI zSP ?_
       rintro _ _ ⟨⟨y,rfl⟩,rfl⟩
       simp only[zAJ,zC8,zA7,zAg,zAf,zAQ,zAU,zAv,zAl,zAa,if_true,if_false,zAb,zAc,decide_true,decide_false,reduceCtorEq,zBT,zEL,zEM,zEI,zEJ,zEK,zBp,zA8]
       cases h97:decide ((97:Int)<=y)<;>simp only[zA7,zAg,zAf,zAQ,zAU,zAv,zAl,zAa,if_true,if_false,zAb,zAc,decide_true,decide_false,reduceCtorEq,zBT,zEL,zEM,zEI,zEJ,zEK,zBp,zA8]
       ·rw[zKB,zAa];exact bad 2 0 _ (.inr rfl) k1
       ·refine zAI zSP ?_
        rintro _ _ ⟨⟨z,rfl⟩,rfl⟩
        simp only[zAJ,zC8,zA7,zAg,zAf,zAQ,zAU,zAv,zAl,zAa,if_true,if_false,zAb,zAc,decide_true,decide_false,reduceCtorEq,zBT,zEL,zEM,zEI,zEJ,zEK,zBp,zA8]
        cases h122:decide (z<=(122:Int))<;>simp only[zA7,zAg,zAf,zAQ,zAU,zAv,zAl,zAa,if_true,if_false,zAb,zAc,decide_true,decide_false,reduceCtorEq,zBT,zEL,zEM,zEI,zEJ,zEK,zBp,zA8]
        ·rw[zKB,zAa];exact bad 2 0 _ (.inr rfl) k1
        ·refine zAI zSP ?_
         rintro _ _ ⟨⟨y2,rfl⟩,rfl⟩
         simp only[zAJ,zC8,zA7,zAg,zAf,zAQ,zAU,zAv,zAl,zAa,if_true,if_false,zAb,zAc,decide_true,decide_false,reduceCtorEq,zBT,zEL,zEM,zEI,zEJ,zEK,zBp,zA8]
         exact hk27 _ _ _ _ _ ⟨rfl,⟨_,rfl⟩,rfl⟩
      ·exact hk27 _ _ _ _ _ ⟨rfl,⟨_,rfl⟩,rfl⟩
   ·rintro _ _ _ _ _ ⟨rfl,⟨d,rfl⟩,rfl⟩
    simp only[f9,f10,zAJ,zC8,zA7,zAg,zAf,zAQ,zAU,zAv,zAl,zAa,if_true,if_false,zAb,zAc,decide_true,decide_false,reduceCtorEq,zBT,zEL,zEM,zEI,zEJ,zEK,zBp,zA8]
    cases h10:decide (d>=(10:Int))<;>simp only[zA7,zAg,zAf,zAQ,zAU,zAv,zAl,zAa,if_true,if_false,zAb,zAc,decide_true,decide_false,reduceCtorEq,zBT,zEL,zEM,zEI,zEJ,zEK,zBp,zA8]
    ·cases hcut:decide (n>=(1844674407370955162:Int))<;>simp only[zA7,zAg,zAf,zAQ,zAU,zAv,zAl,zAa,if_true,if_false,zAb,zAc,decide_true,decide_false,reduceCtorEq,zBT,zEL,zEM,zEI,zEJ,zEK,zBp,zA8]
     ·rw[zFH,zAa]
      simp only[zAJ,zC8,zA7,zAg,zAf,zAQ,zAU,zAv,zAl,zAa,if_true,if_false,zAb,zAc,decide_true,decide_false,reduceCtorEq,zBT,zEL,zEM,zEI,zEJ,zEK,zBp,zA8]
      generalize IntKind.u64.wrap (IntKind.u64.wrap (n*10)+IntKind.u64.wrap d)=m
      cases h1':decide (m<IntKind.u64.wrap (n*10))<;>simp only[zA7,zAg,zAf,zAQ,zAU,zAv,zAl,zAa,if_true,if_false,zAb,zAc,decide_true,decide_false,reduceCtorEq,zBT,zEL,zEM,zEI,zEJ,zEK,zBp,zA8]
      ·cases h2':decide (m > (18446744073709551615:Int))<;>simp only[zA7,zAg,zAf,zAQ,zAU,zAv,zAl,zAa,if_true,if_false,zAb,zAc,decide_true,decide_false,reduceCtorEq,zBT,zEL,zEM,zEI,zEJ,zEK,zBp,zA8]
       ·exact hk25 _ _ _ _ _ ⟨rfl,⟨_,rfl⟩,rfl⟩
       ·rw[zKB,zAa];exact bad 1 _ _ (.inl rfl) k1
      ·rw[zKB,zAa];exact bad 1 _ _ (.inl rfl) k1
     ·rw[zKB,zAa];exact bad 1 _ _ (.inl rfl) k1
    ·rw[zKB,zAa];exact bad 2 0 _ (.inr rfl) k1
 ·rw[if_neg (by simpa using hlt)]
  simp only[zA7,zAg,zAf,zAQ,zAU,zAv,zAl,zAa,if_true,if_false,zAb,zAc,decide_true,decide_false,reduceCtorEq,zBT,zEL,zEM,zEI,zEJ,zEK,zBp,zA8]
  exact⟨⟨n,_,rfl,.inl rfl⟩,k1⟩
def PiR (H:zAx)(u:Value)(H':zAx):Prop:=(∃ n e,u = .tuple #[.int .i64 n,e]/\zAkc e)/\Keep zAK H H'
theorem zAbj {H:zAx}{l:List UInt8}(hl:l.length<=1048576):zAA prg zEt [str l,.int .i64 10,.int .i64 0] H (PiR H):=by
 apply zJF
 unfold zHD
 have e0:=λq=>zDV (q:=q) (a:=l) (b:=[])
 have ok:∀ (n:Int) (e:Value) (h:zAx),zAkc e->Keep zAK H h->PiR H (.tuple #[.int .i64 n,e]) h:=λn e h he kk=>⟨⟨n,e,rfl,he⟩,kk⟩
 rw[e0,zAa,zAl]
 cases l with
 | nil =>
  rw[if_pos (by simp),zKB,zAa]
  exact ok 0 _ _ (.inr (.inr rfl)) Keep.refl
 | cons x l =>
  rw[if_neg (by simp)]
  have hi:ixT (str (x::l)) (.int .i64 0)=some (.int .u8 x.toNat):=zLN (i:=0) rfl
  have hs:slT (str (x::l)) (some (.int .i64 1)) none=some (str l):=zWs (l:=x::l) (o:=1) (by simp)
  refine zMk (λt0 t8 h=>(∃ l2:List UInt8,t0=str l2/\l2.length<=1048576)/\(∃ b:Bool,t8 = .bool b)/\H=h) (λk hk=>?_) ?_
  ·simp only[hi,zAa,zAJ,zC8]
   have hl':l.length<=1048576:=by simp at hl;omega
   cases h43:((x.toNat:Int) == 43)<;>simp only[zA7,zAg,zAf,zAQ,zAU,zAv,zAl,zAa,if_true,if_false,zAb,zAc,decide_true,decide_false,reduceCtorEq,zBT,zEL,zEM,zEI,zEJ,zEK,zBp,zA8]
   ·cases h45:((x.toNat:Int) == 45)<;>simp only[zA7,zAg,zAf,zAQ,zAU,zAv,zAl,zAa,if_true,if_false,zAb,zAc,decide_true,decide_false,reduceCtorEq,zBT,zEL,zEM,zEI,zEJ,zEK,zBp,zA8]
    ·exact hk _ _ _ ⟨⟨_,rfl,hl⟩,⟨_,rfl⟩,rfl⟩
    ·rw[hs,zAa];exact hk _ _ _ ⟨⟨_,rfl,hl'⟩,⟨_,rfl⟩,rfl⟩
   ·rw[hs,zAa];exact hk _ _ _ ⟨⟨_,rfl,hl'⟩,⟨_,rfl⟩,rfl⟩
  rintro _ _ _ ⟨⟨l2,rfl,hl2⟩,⟨b,rfl⟩,rfl⟩
  refine zAI (zY1 hl2) ?_
  rintro _ h3 ⟨⟨n,e,rfl,he⟩,k3⟩
  have f1:zAB .no .eql (.int .i64 0) (.int .i64 0)=some (.bool true):=rfl
  have f2:zAB .no .sub (.int .i64 64) (.int .i64 1)=some (.int .i64 63):=rfl
  have f3:cvI .u64 (.int .i64 63)=some (.int .u64 63):=rfl
  have f4:zAB .no .shl (.int .u64 1) (.int .u64 63)=some (.int .u64 9223372036854775808):=by kernel_rfl
  have f5:zAB .no .sub (.int .u64 9223372036854775808) (.int .u64 1)=some (.int .u64 9223372036854775807):=by kernel_rfl
  have g:∀ a:Int,unV .neg (.int .i64 a)=some (.int .i64 (IntKind.i64.wrap (0-a))):=λa=>rfl
  have tail:∀ e:Value,zAkc e->zAB (.ifc (zVW prg) true) .neq e .nilIface=some (.bool false)\/e=err 1\/e=err 2:=λe he=>by
   rcases he with rfl|rfl|rfl
   ·exact .inl zY0
   ·exact .inr (.inl rfl)
   ·exact .inr (.inr rfl)
  rcases he with rfl|rfl|rfl
  ·simp only[zY0,f1,f2,f3,f4,f5,g,zFH,zAJ,zC8,zKB,zA7,zAg,zAf,zAQ,zAU,zAv,zAl,zAa,if_true,if_false,zAb,zAc,decide_true,decide_false,reduceCtorEq,zBT,zEL,zEM,zEI,zEJ,zEK,zBp,zA8]
   cases b<;>simp only[zA7,zAg,zAf,zAQ,zAU,zAv,zAl,zAa,if_true,if_false,zAb,zAc,decide_true,decide_false,reduceCtorEq,zBT,zEL,zEM,zEI,zEJ,zEK,zBp,zA8]
   ·cases hA:decide (n>=(9223372036854775808:Int))<;>simp only[zA7,zAg,zAf,zAQ,zAU,zAv,zAl,zAa,if_true,if_false,zAb,zAc,decide_true,decide_false,reduceCtorEq,zBT,zEL,zEM,zEI,zEJ,zEK,zBp,zA8]
    ·exact ok _ _ _ (.inl rfl) k3
    ·exact ok _ _ _ (.inr (.inl rfl)) k3
   ·cases hA:decide (n > (9223372036854775808:Int))<;>simp only[zA7,zAg,zAf,zAQ,zAU,zAv,zAl,zAa,if_true,if_false,zAb,zAc,decide_true,decide_false,reduceCtorEq,zBT,zEL,zEM,zEI,zEJ,zEK,zBp,zA8]
    ·exact ok _ _ _ (.inl rfl) k3
    ·exact ok _ _ _ (.inr (.inl rfl)) k3
  ·simp only[zWt,zAgR,f1,f2,f3,f4,f5,g,zFH,zAJ,zC8,zKB,zA7,zAg,zAf,zAQ,zAU,zAv,zAl,zAa,if_true,if_false,zAb,zAc,decide_true,decide_false,reduceCtorEq,zBT,zEL,zEM,zEI,zEJ,zEK,zBp,zA8,show((1:Int) == 1)=true from rfl]
   cases b<;>simp only[zA7,zAg,zAf,zAQ,zAU,zAv,zAl,zAa,if_true,if_false,zAb,zAc,decide_true,decide_false,reduceCtorEq,zBT,zEL,zEM,zEI,zEJ,zEK,zBp,zA8]
   ·cases hA:decide (n>=(9223372036854775808:Int))<;>simp only[zA7,zAg,zAf,zAQ,zAU,zAv,zAl,zAa,if_true,if_false,zAb,zAc,decide_true,decide_false,reduceCtorEq,zBT,zEL,zEM,zEI,zEJ,zEK,zBp,zA8]
    ·exact ok _ _ _ (.inl rfl) k3
    ·exact ok _ _ _ (.inr (.inl rfl)) k3
   ·cases hA:decide (n > (9223372036854775808:Int))<;>simp only[zA7,zAg,zAf,zAQ,zAU,zAv,zAl,zAa,if_true,if_false,zAb,zAc,decide_true,decide_false,reduceCtorEq,zBT,zEL,zEM,zEI,zEJ,zEK,zBp,zA8]
    ·exact ok _ _ _ (.inl rfl) k3
    ·exact ok _ _ _ (.inr (.inl rfl)) k3
  ·simp only[zWt,zAgR,zKB,zA7,zAg,zAf,zAQ,zAU,zAv,zAl,zAa,if_true,if_false,zAb,zAc,decide_true,decide_false,reduceCtorEq,zBT,zEL,zEM,zEI,zEJ,zEK,zBp,zA8,show((2:Int) == 1)=false from rfl]
   exact ok _ _ _ (.inr (.inr rfl)) k3
theorem zAcX (n:Nat)(h:n<1000000):1<=(zHj n).length/\(zHj n).length<=6:=⟨List.length_pos_iff.2 (zAie n),zOM h⟩
theorem zWq.not {l:List UInt8}{n:Int}(h:∀ m,m<=999999->l≠zHj m):zWq l n:=λm hm e=>absurd e (h m hm)
def isD (x:UInt8):Prop:=48<=x.toNat/\x.toNat<=57
theorem zUr:∀ {l:List UInt8} {n:Nat},(∀ x∈l,isD x)->l.foldl (λn c=>n*10+(c.toNat-48)) n<(n+1)*10 ^ l.length
 | [],n,_=>by simp
 | x::l,n,h=>by
  have h2:=h x (by simp)
  unfold isD at h2
  have h1:=zUr (l:=l) (n:=n*10+(x.toNat-48)) λy hy=>h y (by simp[hy])
  rw[List.foldl_cons,zAS,Nat.pow_succ]
  have h3:(n*10+(x.toNat-48)+1)*10 ^ l.length<=((n+1)*10)*10 ^ l.length:=zBq _ (by omega)
  have h4:((n+1)*10)*10 ^ l.length=(n+1)*(10 ^ l.length*10):=by rw[Nat.mul_assoc,Nat.mul_comm 10]
  omega
theorem zAii {l:List UInt8}(h:∀ x∈l,isD x):zAbV l<10 ^ l.length:=by
 have:=zUr (n:=0) h
 rw[zAi,Nat.one_mul]at this
 exact this
def AiR (l:List UInt8)(H:zAx)(u:Value)(H':zAx):Prop:=(∃ n e,u = .tuple #[.int .i64 n,e]/\zAkc e/\zWq l n)/\Keep zAK H H'
theorem zAij {H:zAx}{l:List UInt8}(hl:l.length<=1048576):zAA prg zG0 [str l] H (AiR l H):=by
 apply zLk
 unfold zJo
 have e1:zAB .no .lss (.int .i64 0) (.int .i64 (l.length:Nat))=some (.bool (decide (0<l.length))):=by
  rw[zAJ];simp only[zC8];congr 2;rw[decide_eq_decide];omega
 have e2:zAB .no .lss (.int .i64 (l.length:Nat)) (.int .i64 19)=some (.bool (decide (l.length<19))):=by
  rw[zAJ];simp only[zC8];congr 2;rw[decide_eq_decide];omega
 have far:∀ (h:¬ (0<l.length/\l.length<19)),∀ n,zWq l n:=λh n=>zWq.not λm hm e=>h (by
  have:=zAcX m (by omega);rw[<- e]at this;omega)
 have slow:¬ (0<l.length/\l.length<19)->zAX prg zEt [str l,.int .i64 10,.int .i64 0] H λt72 h30=>Mpu (zE0 0 t72) λt73=>Mpu (zE0 1 t72) λt74=>AiR l H (.tuple #[t73,t74]) h30:=λh=>by
  refine zAI (zAbj hl) ?_
  rintro _ h3 ⟨⟨n,e,rfl,he⟩,k3⟩
  simp only[zA7,zAg,zAf,zAQ,zAU,zAv,zAl,zAa,if_true,if_false,zAb,zAc,decide_true,decide_false,reduceCtorEq,zBT,zEL,zEM,zEI,zEJ,zEK,zBp,zA8]
  exact⟨⟨n,e,rfl,he,far h n⟩,k3⟩
 simp only[zFu,e1,e2,zA7,zAg,zAf,zAQ,zAU,zAv,zAl,zAa,if_true,if_false,zAb,zAc,decide_true,decide_false,reduceCtorEq,zBT,zEL,zEM,zEI,zEJ,zEK,zBp,zA8,zAlJ]
 cases h0:decide (0<l.length)<;>simp only[zA7,zAg,zAf,zAQ,zAU,zAv,zAl,zAa,if_true,if_false,zAb,zAc,decide_true,decide_false,reduceCtorEq,zBT,zEL,zEM,zEI,zEJ,zEK,zBp,zA8]
 ·exact slow λh=>absurd h.1 (of_decide_eq_false h0)
 cases h19:decide (l.length<19)<;>simp only[zA7,zAg,zAf,zAQ,zAU,zAv,zAl,zAa,if_true,if_false,zAb,zAc,decide_true,decide_false,reduceCtorEq,zBT,zEL,zEM,zEI,zEJ,zEK,zBp,zA8]
 ·exact slow λh=>absurd h.2 (of_decide_eq_false h19)
 have h0:=of_decide_eq_true h0
 have h19:=of_decide_eq_true h19
 obtain⟨x,r,rfl⟩:∃ x r,l=x::r:=by cases l with
  | nil=>simp at h0
  | cons x r=>exact⟨x,r,rfl⟩
 have hi:ixT (str (x::r)) (.int .i64 0)=some (.int .u8 x.toNat):=zLN (i:=0) rfl
 have hs:slT (str (x::r)) (some (.int .i64 1)) none=some (str r):=zWs (l:=x::r) (o:=1) (by simp)
 have sg:∀ m,x::r=zHj m->isD x:=λm e=>zRg m x (by rw[<- e];simp)
 refine zMk (λt0 _ h=>(∃ l2:List UInt8,t0=str l2/\l2.length<19/\∀ m,x::r=zHj m->l2=x::r)/\H=h) (λk hk=>?_) ?_
 ·simp only[hi,zAa,zAJ,zC8]
  have hr:r.length<19:=by simp at h19;omega
  have e3:zAB .no .lss (.int .i64 (r.length:Nat)) (.int .i64 1)=some (.bool (decide (r.length<1))):=by
   rw[zAJ];simp only[zC8];congr 2;rw[decide_eq_decide];omega
  have hbad:∀ c:Nat,c<48->(x.toNat:Int)=c->∀ m,x::r=zHj m->False:=λc hc hx m e=>by
   have:=sg m e;unfold isD at this;omega
  cases h45:((x.toNat:Int) == 45)<;>simp only[zA7,zAg,zAf,zAQ,zAU,zAv,zAl,zAa,if_true,if_false,zAb,zAc,decide_true,decide_false,reduceCtorEq,zBT,zEL,zEM,zEI,zEJ,zEK,zBp,zA8]
  ·cases h43:((x.toNat:Int) == 43)<;>simp only[zA7,zAg,zAf,zAQ,zAU,zAv,zAl,zAa,if_true,if_false,zAb,zAc,decide_true,decide_false,reduceCtorEq,zBT,zEL,zEM,zEI,zEJ,zEK,zBp,zA8]
   ·exact hk _ _ _ ⟨⟨_,rfl,h19,λ_ _=>rfl⟩,rfl⟩
   ·have h43:=eq_of_beq h43
    simp only[hs,zFu,e3,zA7,zAg,zAf,zAQ,zAU,zAv,zAl,zAa,if_true,if_false,zAb,zAc,decide_true,decide_false,reduceCtorEq,zBT,zEL,zEM,zEI,zEJ,zEK,zBp,zA8]
    cases h1:decide (r.length<1)<;>simp only[zA7,zAg,zAf,zAQ,zAU,zAv,zAl,zAa,if_true,if_false,zAb,zAc,decide_true,decide_false,reduceCtorEq,zBT,zEL,zEM,zEI,zEJ,zEK,zBp,zA8]
    ·exact hk _ _ _ ⟨⟨_,rfl,hr,λm e=>(hbad 43 (by omega) h43 m e).elim⟩,rfl⟩
    ·rw[zKB,zAa]
     exact⟨⟨0,_,rfl,.inr (.inr rfl),λm _ e=>(hbad 43 (by omega) h43 m e).elim⟩,Keep.refl⟩
  ·have h45:=eq_of_beq h45
   simp only[hs,zFu,e3,zA7,zAg,zAf,zAQ,zAU,zAv,zAl,zAa,if_true,if_false,zAb,zAc,decide_true,decide_false,reduceCtorEq,zBT,zEL,zEM,zEI,zEJ,zEK,zBp,zA8]
   cases h1:decide (r.length<1)<;>simp only[zA7,zAg,zAf,zAQ,zAU,zAv,zAl,zAa,if_true,if_false,zAb,zAc,decide_true,decide_false,reduceCtorEq,zBT,zEL,zEM,zEI,zEJ,zEK,zBp,zA8]
   ·exact hk _ _ _ ⟨⟨_,rfl,hr,λm e=>(hbad 45 (by omega) h45 m e).elim⟩,rfl⟩
   ·rw[zKB,zAa]
    exact⟨⟨0,_,rfl,.inr (.inr rfl),λm _ e=>(hbad 45 (by omega) h45 m e).elim⟩,Keep.refl⟩
 rintro _ _ _ ⟨⟨l2,rfl,hl2,hsame⟩,rfl⟩
 refine zMk (λt6 _ h=>t6 = .int .i64 (zAbV l2:Nat)/\Keep zAK H h) (λk23 hk23=>?_) ?_
 ·refine zAih (by omega) λv h1 hv k1=>?_
  simp only[hv.len,zAa]
  refine zUY (λt6 t49 h=>∃ i:Nat,i<=l2.length/\t49 = .int .i64 (i:Nat)/\t6 = .int .i64 (zAbV (l2.take i):Nat)/\(∀ y∈l2.take i,isD y)/\h1=h) (λ_ u _=>match u with | .int _ t=>l2.length-t.toNat|_=>0) ⟨0,zAz _,rfl,rfl,by simp,rfl⟩ ?_
  rintro _ _ _ ⟨i,hi,rfl,rfl,hD,rfl⟩ k hk
  have elt:zAB .no .lss (.int .i64 (i:Nat)) (.int .i64 (l2.length:Nat))=some (.bool (decide (i<l2.length))):=by
   rw[zAJ];simp only[zC8];congr 2;rw[decide_eq_decide];omega
  rw[elt,zAa,zAl]
  by_cases hlt:i<l2.length
  ·rw[if_pos (by simpa using hlt)]
   have hg:l2[i]? = some l2[i]:=zAj hlt
   generalize l2[i]=y at hg
   obtain⟨p,hix,hld,_⟩:=hv.at hg
   have hmem:y∈l2:=zAC hg
   have htk:l2.take (i+1)=l2.take i++[y]:=by rw[zAG,hg];rfl
   simp only[hix,hld,zAa,zAJ,zC8]
   have hw:IntKind.u8.wrap ((y.toNat:Int)-48)=if 48<=y.toNat then (y.toNat:Int)-48 else (y.toNat:Int)+208:=by
    have:=y.toNat_lt
    simp only[IntKind.wrap,IntKind.bits,IntKind.signed]
    simp
    split<;>omega
   have hyl:=y.toNat_lt
   by_cases hd:isD y
   ·have hd':=hd
    unfold isD at hd'
    have hwe:IntKind.u8.wrap ((y.toNat:Int)-48)=((y.toNat-48:Nat):Int):=by rw[hw,if_pos hd'.1];omega
    have hng:¬ (((y.toNat-48:Nat):Int) > 9):=by omega
    have hvl:=zAii hD
    have hp:(10:Nat) ^ (l2.take i).length<=10 ^ 17:=zBL (by omega) (by simp;omega)
    have w1:IntKind.i64.wrap (((zAbV (l2.take i):Nat):Int)*10)=((zAbV (l2.take i)*10:Nat):Int):=by rw[zCe]<;>omega
    have w2:IntKind.i64.wrap ((y.toNat-48:Nat):Int)=((y.toNat-48:Nat):Int):=by rw[zCe]<;>omega
    have w3:IntKind.i64.wrap (((zAbV (l2.take i)*10:Nat):Int)+((y.toNat-48:Nat):Int))=((zAbV (l2.take (i+1)):Nat):Int):=by
     rw[htk,zXG,zCe]<;>omega
    have w4:IntKind.i64.wrap ((i:Int)+1)=(i+1:Nat):=by rw[zCe]<;>omega
    simp only[hwe,decide_eq_false hng,zA7,zAg,zAf,zAQ,zAU,zAv,zAl,zAa,if_true,if_false,zAb,zAc,decide_true,decide_false,reduceCtorEq,zBT,zEL,zEM,zEI,zEJ,zEK,zBp,zA8,zFH,w1,w2,zAJ,zC8,w3,w4]
    refine hk _ _ _ ⟨i+1,by omega,rfl,rfl,?_,rfl⟩ (by show l2.length-(i+1)<l2.length-i;omega)
    intro z hz
    rw[htk]at hz
    rcases zAp.1 hz with hz|hz
    ·exact hD z hz
    ·obtain rfl:z=y:=by simpa using hz
     exact hd
   ·have hg9:IntKind.u8.wrap ((y.toNat:Int)-48) > 9:=by
     rw[hw];unfold isD at hd;split<;>omega
    rw[decide_eq_true hg9]
    simp only[zA7,zAg,zAf,zAQ,zAU,zAv,zAl,zAa,if_true,if_false,zAb,zAc,decide_true,decide_false,reduceCtorEq,zBT,zEL,zEM,zEI,zEJ,zEK,zBp,zA8]
    rw[zKB,zAa]
    refine⟨⟨0,_,rfl,.inr (.inr rfl),λm _ e=>?_⟩,k1⟩
    have:=zRg m y (by rw[<- e,<- hsame m e];exact hmem)
    exact absurd this hd
  ·rw[if_neg (by simpa using hlt)]
   rw[zAr (by omega)]
   exact hk23 _ _ _ ⟨rfl,k1⟩
 rintro _ _ h4 ⟨rfl,k4⟩
 simp only[hi,zAa,zAJ,zC8]
 cases h45:((x.toNat:Int) == 45)<;>simp only[zA7,zAg,zAf,zAQ,zAU,zAv,zAl,zAa,if_true,if_false,zAb,zAc,decide_true,decide_false,reduceCtorEq,zBT,zEL,zEM,zEI,zEJ,zEK,zBp,zA8]
 ·refine⟨⟨_,_,rfl,.inl rfl,λm hm e=>?_⟩,k4⟩
  rw[hsame m e,e,zWp]
 ·have h45:=eq_of_beq h45
  simp only[unV,zAa]
  refine⟨⟨_,_,rfl,.inl rfl,λm hm e=>?_⟩,k4⟩
  have:=sg m e
  unfold isD at this;omega
theorem zAkd {H:zAx}{l:List UInt8}(hE:zAfn H)(hl:l.length<=1048576):zAA prg zNG [str l] H λu H'=>(∃ n e,u = .tuple #[.int .i64 n,e]/\zWq l n)/\Keep zAK H H':=by
 apply zPN
 unfold zPM
 refine zAI (zAij hl) ?_
 rintro _ h1 ⟨⟨n,e,rfl,he,hn⟩,k1⟩
 rcases he with rfl|rfl|rfl
 ·simp only[zY0,zA7,zAg,zAf,zAQ,zAU,zAv,zAl,zAa,if_true,if_false,zAb,zAc,decide_true,decide_false,reduceCtorEq,zBT,zEL,zEM,zEI,zEJ,zEK,zBp,zA8]
  exact⟨⟨n,_,rfl,hn⟩,k1⟩
 ·simp only[zWt,zA7,zAg,zAf,zAQ,zAU,zAv,zAl,zAa,if_true,if_false,zAb,zAc,decide_true,decide_false,reduceCtorEq,zBT,zEL,zEM,zEI,zEJ,zEK,zBp,zA8]
  refine(zAI (zXK (a:=[65,116,111,105]) (hE.keep k1 λ_ h=>h.elim) hl (.inl rfl)) ?_)
  intro u h2 k2
  exact⟨⟨n,u,rfl,hn⟩,k1.trans k2⟩
 ·simp only[zWt,zA7,zAg,zAf,zAQ,zAU,zAv,zAl,zAa,if_true,if_false,zAb,zAc,decide_true,decide_false,reduceCtorEq,zBT,zEL,zEM,zEI,zEJ,zEK,zBp,zA8]
  refine(zAI (zXK (a:=[65,116,111,105]) (hE.keep k1 λ_ h=>h.elim) hl (.inr rfl)) ?_)
  intro u h2 k2
  exact⟨⟨n,u,rfl,hn⟩,k1.trans k2⟩
theorem zAik:zBI prg zHV=some [Value.int .i64 0].toArray:=by kernel_rfl
theorem zAlX:zBI prg zIC=some [Value.int .i64 0].toArray:=by kernel_rfl
theorem zOn {c:UInt8}:∀ {l x:List UInt8},x∈zD0 c l->x.length<=l.length
 | [],x,h=>by simp[zD0]at h;subst h;simp
 | y::l,x,h=>by
  rw[zD0]at h
  split at h
  ·rcases zAs.1 h with rfl|h
   ·simp
   ·have:=zOn h;simp;omega
  ·split at h
   ·obtain rfl:x=[y]:=by simpa using h
    simp
   ·rename_i h' t he
    rcases zAs.1 h with rfl|h
    ·have:=zOn (c:=c) (l:=l) (x:=h') (by rw[he];simp)
     simp;omega
    ·have:=zOn (c:=c) (l:=l) (x:=x) (by rw[he];simp[h])
     simp;omega
theorem zAah {c:UInt8}{l:List UInt8}:(zWo c l).length<=l.length:=by
 unfold zWo
 have:=congrArg List.length (List.takeWhile_append_dropWhile (p:=(· != c)) (l:=l))
 rw[zAt]at this;omega
theorem zAfp {c:UInt8}{l:List UInt8}:(zYu c l).length<=l.length:=by
 unfold zYu
 have:=congrArg List.length (List.takeWhile_append_dropWhile (p:=(· != c)) (l:=l))
 rw[zAt]at this
 rw[zC1];omega
def zAgS (s:List UInt8)(u:Value):Prop :=
 (∃ v:Ver,v.wf/\zG5 v=true/\zHO v=s/\u = .tuple #[.agg (zEm v).toArray,.int .i64 0]) \/
 ((∀ v:Ver,v.p.length=3->zG5 v=true->zHO v≠s)/\u = .tuple #[.agg (zEm zEc).toArray,.int .i64 10])
structure zAjx (H:zAx)(q2 q3 q4 q8:Nat)(s:List UInt8)(j:Nat)(h:zAx):Prop where
 r:At h q2 (zEm zEc)
 e:At h q3 [.int .i64 0]
 i:At h q8 [.int .i64 (j:Nat)]
 le:j<=3
 v:∃ v:Ver,v.wf/\At h q4 (zEm v)/\v.pre=zYu 45 s/\∀ (i:Nat) (l:List UInt8),i<j->(zD0 46 (zWo 45 s))[i]? = some l->∃ n,v.p[i]? = some n/\zWq l n
 k:Keep zAK H h
theorem zAjx.keep {H:zAx}{q2 q3 q4 q8:Nat}{s:List UInt8}{j:Nat}{h h':zAx}{S:zA1}(p:zAjx H q2 q3 q4 q8 s j h)(k:Keep S h h')(hs:∀ b,S b->H.size<=b/\b≠q2/\b≠q3/\b≠q4/\b≠q8):zAjx H q2 q3 q4 q8 s j h':=by
 obtain⟨v,h1,h2,h3⟩:=p.v
 exact⟨p.r.keep k λh=>(hs _ h).2.1 rfl,p.e.keep k λh=>(hs _ h).2.2.1 rfl,p.i.keep k λh=>(hs _ h).2.2.2.2 rfl,p.le,⟨v,h1,h2.keep k λh=>(hs _ h).2.2.2.1 rfl,h3⟩,p.k.fresh k λb h=>(hs b h).1⟩
theorem zAil {v:Ver}(hv:v.wf){j:Nat}{n:Int}(hj:j<3):(zEm v).set j (.int .i64 n)=zEm ⟨v.p.set j n,v.pre⟩:=by
 unfold zEm
 rw[List.set_append_left _ _ (by simp[hv.p3];exact hj),zSK]
theorem zWv {n0:Nat}{h:zAx}{k:zAx->Prop}(hk:∀ h',zOX n0 h h'->k h'):Mcl n0 h k:=hk
theorem At.closed {n0:Nat}{h h':zAx}{q:Nat}{cs:List Value}(a:At h q cs)(c:zOX n0 h h'):At h' q cs:=by
 obtain⟨T,a⟩:=a
 exact⟨T,c.2.2 _ _ a λds e=>by cases e⟩
theorem zH5 {H h h':zAx}(k:Keep zAK H h)(c:zOX H.size h h'):Keep zAK H h' :=
 ⟨by rw[c.1];exact k.1,λi hi _=>by rw[c.2.1 i hi,k.2 i hi id]⟩
set_option maxHeartbeats 1000000 in
theorem zAim {H:zAx}{s:List UInt8}(hE:zAfn H)(hT:zXF H)(hl:s.length<=1048576):zAA prg zMD [str s] H λu H'=>zAgS s u/\Keep zAK H H':=by
 apply zPf
 unfold zO0
 simp only[zBb,zAnq,zAik,zAlX]
 generalize hH1:H.push (.cells (zEm ⟨[0,0,0],[]⟩).toArray zAO (0,0))=H1
 have k1:Keep zAK H H1:=by rw[<- hH1];exact Keep.push
 have a1:At H1 H.size (zEm zEc):=by rw[<- hH1];exact At.push
 have s1:H1.size=H.size+1:=by rw[<- hH1];simp
 generalize hH2:H1.push (.cells [Value.int .i64 0].toArray zHV (0,0))=H2
 have k2:Keep zAK H1 H2:=by rw[<- hH2];exact Keep.push
 have e2:At H2 H1.size [.int .i64 0]:=by rw[<- hH2];exact At.push
 have s2:H2.size=H1.size+1:=by rw[<- hH2];simp
 generalize hH3:H2.push (.cells (zEm ⟨[0,0,0],[]⟩).toArray zAO (0,0))=H3
 have k3:Keep zAK H2 H3:=by rw[<- hH3];exact Keep.push
 have b3:At H3 H2.size (zEm zEc):=by rw[<- hH3];exact At.push
 have s3:H3.size=H2.size+1:=by rw[<- hH3];simp
 refine zAI (zAlW (by omega)) ?_
 rintro _ _ ⟨⟨bc,rfl⟩,rfl⟩
 obtain⟨h5,st5,b5,k5⟩:=b3.st1 (i:=3) (v:=str (zYu 45 s)) (by rw[zDH zG7];omega) rfl
 have hb5:(zEm zEc).set 3 (str (zYu 45 s))=zEm ⟨[0,0,0],zYu 45 s⟩:=rfl
 rw[hb5]at b5
 have g5:=k5.1
 simp only[zEI,zEJ,zEK,zAa,zBf,zAi,st5,zAW]
 generalize hH6:h5.push (.cells [Value.int .i64 0].toArray zIC (0,0))=h6
 have k6:Keep zAK h5 h6:=by rw[<- hH6];exact Keep.push
 have i6:At h6 h5.size [.int .i64 0]:=by rw[<- hH6];exact At.push
 have s6:h6.size=h5.size+1:=by rw[<- hH6];simp
 obtain⟨h7,st7,i7,k7⟩:=i6.st1 (i:=0) (v := .int .i64 0) (by simp) rfl
 have g7:=k7.1
 rw[st7,zAW]
 refine zAI zVB ?_
 rintro _ h8 ⟨qs,qp,qn,rfl,hst,hq,k8⟩
 have g8:=k8.1
 have hcl:=zAfp (c:=45) (l:=s)
 have k05:Keep zAK H h5:=(k1.trans (k2.trans k3)).fresh k5 λb hb=>by omega
 have k07:Keep zAK H h7:=(k05.trans k6).fresh k7 λb hb=>by omega
 have k08:=k07.trans k8
 have k18:∀ {q cs},q≠H2.size->q≠h5.size->At H3 q cs->At h8 q cs:=λh1 h2 a=>(((a.keep k5 h1).keep k6 id).keep k7 h2).keep k8 id
 have inv0:zAjx H H.size H1.size H2.size h5.size s 0 h8 :=
  ⟨k18 (by omega) (by omega) ((a1.keep k2 id).keep k3 id),k18 (by omega) (by omega) (e2.keep k3 id),i7.keep k8 id,by omega,
   ⟨⟨[0,0,0],zYu 45 s⟩,⟨rfl,by show(zYu 45 s).length<=_;omega⟩,((b5.keep k6 id).keep k7 (by omega)).keep k8 id,rfl,λi l hi=>by omega⟩,k08⟩
 have hne:∀ b,(b=H.size\/b=H1.size\/b=H2.size\/b=h5.size)->H.size<=b/\b<h8.size/\¬ (b=qs\/b=qp\/b=qn):=λb hb=>by
  refine⟨by omega,by omega,λhbq=>?_⟩
  have:=hq b hbq
  omega
 have hpl:∀ x∈zD0 46 (zWo 45 s),x.length<=1048576:=λx hx=>by
  have:=zOn hx;have:=zAah (c:=45) (l:=s);omega
 refine range_i (xs:=(zD0 46 (zWo 45 s)).map λx=>[str x]) (S:=λb=>b=qs\/b=qp\/b=qn) (W:=λb=>b=H.size\/b=H1.size\/b=H2.size\/b=h5.size) (St:=zRh qs qp qn (zWo 45 s) 46)
  (zVA (by have:=zAah (c:=45) (l:=s);omega)) (λo o'=>?_) k08.1
  (zAjx H H.size H1.size H2.size h5.size s) (λc h=>c = .ret/\At h H.size (zEm zEc)/\At h H1.size [.int .i64 10]/\3<(zD0 46 (zWo 45 s)).length/\Keep zAK H h) inv0
  (λi h h' hI k=>hI.keep k λb hb=>?_) (λc h h' hX k=>?_) (λb hb=>(hq b hb).2) (λb hb=>⟨?_,?_,(hne b hb).2.2⟩) ?_ ?_ ?_
 ·have kp:Keep zAK h8 ((h8.push o).push o'):=Keep.push.trans Keep.push
  exact⟨hst.s.keep kp id,hst.p.keep kp id,hst.n.keep kp id,hst.ne⟩
 ·rcases hb with hb|rfl|rfl
  ·have:=hq b hb
   refine⟨by omega,?_,?_,?_,?_⟩<;>(intro e;omega)
  ·refine⟨by omega,?_,?_,?_,?_⟩<;>(intro e;omega)
  ·refine⟨by omega,?_,?_,?_,?_⟩<;>(intro e;omega)
 ·obtain⟨rfl,x1,x2,x3,x4⟩:=hX
  have nb:∀ b,(b=qs\/b=qp\/b=qn)\/b=h8.size\/b=h8.size+1->H.size<=b/\b≠H.size/\b≠H1.size:=λb hb=>by
   rcases hb with hb|rfl|rfl
   ·have:=hq b hb;omega
   ·omega
   ·omega
  exact⟨rfl,x1.keep k λhb=>(nb _ hb).2.1 rfl,x2.keep k λhb=>(nb _ hb).2.2 rfl,x3,x4.fresh k λb hb=>(nb b hb).1⟩
 ·have:=(hne b hb).2.1;omega
 ·have:=(hne b hb).2.1;omega
 ·intro j x h r hx hI hloop hready K hN hEx
  obtain⟨y,hy,rfl⟩:∃ y,(zD0 46 (zWo 45 s))[j]? = some y/\x=[str y]:=by
   rw[zAq]at hx
   obtain⟨y,h1,h2⟩:=zBF.1 hx
   exact⟨y,h1,h2.symm⟩
  refine⟨rfl,r,hloop,hready,?_⟩
  generalize hhb:h.setIfInBounds (h8.size+1) (.loop { r with state := .busy })=hb at *
  have kb:Keep (· = h8.size+1) h hb:=by rw[<- hhb];exact Keep.set rfl
  have hI:=hI.keep kb λb hb=>by subst hb;refine⟨by omega,?_,?_,?_,?_⟩<;>(intro e;omega)
  obtain⟨v,hv,hav,hpre,hpt⟩:=hI.v
  have d8:=hI.i.ld (i:=0) rfl
  have hle:=hI.le
  have e3:zAB .no .eql (.int .i64 (j:Nat)) (.int .i64 3)=some (.bool (decide (j=3))):=by
   rw[zAJ];simp only[zC8];congr 2;rw[zAR];simp;omega
  simp only[d8,e3,zAa,zAl]
  by_cases hj:j=3
  ·rw[if_pos (by simpa using hj)]
   obtain⟨h15,st15,a15,k15⟩:=hI.r.st (n:=4) (ds:=zEm zEc) (zDH zG7) (zDH zG7) zLa
   have e15:=hI.e.keep k15 (show ¬ H1.size=H.size by omega)
   obtain⟨h16,st16,e16,k16⟩:=e15.st1 (i:=0) (v := .int .i64 10) (by simp) rfl
   simp only[zAlV,zAa,st15,st16,zAW]
   have kk:Keep (λb=>b=H.size\/b=H1.size\/b=H2.size\/b=h5.size) hb h16:=(k15.mono λb _ h => .inl h).trans (k16.mono λb _ h => .inr (.inl h))
   refine hEx _ _ kk ⟨rfl,a15.keep k16 (by omega),e16,?_,(hI.k.fresh k15 λb hb=>by omega).fresh k16 λb hb=>by omega⟩
   have:=(zAV.1 hy).1;omega
  ·rw[if_neg (by simpa using hj)]
   have hj3:j<3:=by omega
   have hyl:=hpl y (zAC hy)
   refine zAI (zAkd (hE.keep hI.k λ_ h=>h.elim) hyl) ?_
   rintro _ h17 ⟨⟨n,e,rfl,hn⟩,k17⟩
   have hI17:=hI.keep k17 λ_ h=>h.elim
   have d17:=hI17.i.ld (i:=0) rfl
   have a17:=hav.keep k17 id
   have hix:ixA 3 1 (Ptr H2.size 0) (.int .i64 (j:Nat))=some (Ptr H2.size j):=zSD hj3
   obtain⟨h18,st18,a18,k18'⟩:=a17.st1 (i:=j) (v := .int .i64 n) (by rw[zDH hv];omega) rfl
   rw[zAil hv hj3]at a18
   have i18:=hI17.i.keep k18' (show ¬ h5.size=H2.size by omega)
   have d18:=i18.ld (i:=0) rfl
   obtain⟨h19,st19,i19,k19⟩:=i18.st1 (i:=0) (v := .int .i64 ((j+1:Nat):Int)) (by simp) rfl
   have hadd:zAB .no .add (.int .i64 (j:Nat)) (.int .i64 1)=some (.int .i64 ((j+1:Nat):Int)):=zBV (by omega)
   simp only[d17,zBf,zAi,hix,st18,zAW,d18,hadd,st19,zA7,zAg,zAf,zAQ,zAU,zAv,zAl,zAa,if_true,if_false,zAb,zAc,decide_true,decide_false,reduceCtorEq,zBT,zEL,zEM,zEI,zEJ,zEK,zBp,zA8]
   have kW:Keep (λb=>b=H.size\/b=H1.size\/b=H2.size\/b=h5.size) hb h19 :=
    (k17.mono λb _ h=>h.elim).trans ((k18'.mono λb _ h => .inr (.inr (.inl h))).trans (k19.mono λb _ h => .inr (.inr (.inr h))))
   refine hN _ kW ⟨(hI17.r.keep k18' (by omega)).keep k19 (by omega),(hI17.e.keep k18' (by omega)).keep k19 (by omega),i19,by omega,⟨⟨v.p.set j n,v.pre⟩,⟨by simpa using hv.p3,hv.pre⟩,a18.keep k19 (by omega),hpre,λi l hi hil=>?_⟩,(hI17.k.fresh k18' λb hb=>by omega).fresh k19 λb hb=>by omega⟩
   show ∃ m,(v.p.set j n)[i]? = some m/\zWq l m
   by_cases hij:i=j
   ·subst hij
    rw[hy]at hil
    cases hil
    have:=hv.p3
    exact⟨n,by rw[List.getElem?_set_self (by omega)],hn⟩
   ·obtain⟨m,h1,h2⟩:=hpt i l (by omega) hil
    exact⟨m,by rw[List.getElem?_set_ne (Ne.symm hij)];exact h1,h2⟩
 ·intro h hsz hI
  rw[zAd]at hI
  obtain⟨v,hv,hav,hpre,hpt⟩:=hI.v
  have raw:zAmV s v:=⟨hv.p3,hpre,λi l hil=>hpt i l (zAV.1 hil).1 hil⟩
  refine .inl ⟨rfl,?_⟩
  have e0:=λq=>zDV (q:=q) (a:=s) (b:=[])
  have fail:∀ h,zAjx H H.size H1.size H2.size h5.size s (zD0 46 (zWo 45 s)).length h->(∀ v:Ver,v.p.length=3->zG5 v=true->zHO v≠s) ->
    Mpu (zCM prg zAO []) λt42=>Mwr (stN 4 h (Ptr H.size 0) t42) λh23=>Mwr (st1 h23 (Ptr H1.size 0) (.int .i64 10)) λh24=>Mcl H.size h24 λh25=>Mpu (ldN 4 h25 (Ptr H.size 0)) λr26=>Mpu (ld1 h25 (Ptr H1.size 0)) λr27=>zAgS s (.tuple #[r26,r27])/\Keep zAK H h25:=by
   intro h hI hno
   obtain⟨h15,st15,a15,k15⟩:=hI.r.st (n:=4) (ds:=zEm zEc) (zDH zG7) (zDH zG7) zLa
   have e15:=hI.e.keep k15 (show ¬ H1.size=H.size by omega)
   obtain⟨h16,st16,e16,k16⟩:=e15.st1 (i:=0) (v := .int .i64 10) (by simp) rfl
   have a16:=a15.keep k16 (show ¬ H.size=H1.size by omega)
   simp only[zAlV,zAa,st15,st16,zAW]
   refine zWv λh' hc=>?_
   have a':=a16.closed hc
   have e':=e16.closed hc
   rw[zP0 a' zG7,zAa,e'.ld (i:=0) rfl,zAa]
   exact⟨.inr ⟨hno,rfl⟩,zH5 ((hI.k.fresh k15 λb hb=>by omega).fresh k16 λb hb=>by omega) hc⟩
  cases hse:decide (s=[])
  ·have hsne:=of_decide_eq_false hse
   simp only[e0,hse,zP0 hav hv,zA7,zAg,zAf,zAQ,zAU,zAv,zAl,zAa,if_true,if_false,zAb,zAc,decide_true,decide_false,reduceCtorEq,zBT,zEL,zEM,zEI,zEJ,zEK,zBp,zA8]
   refine zAI (zWm hv (hT.keep hI.k λ_ h=>h.elim)) ?_
   rintro _ h21 ⟨rfl,k21⟩
   have hI21:=hI.keep k21 λ_ h=>h.elim
   have av21:=hav.keep k21 id
   have en:=λq=>zWr (q:=q) (a:=zHO v) (b:=s)
   cases hsh:decide (zHO v=s)
   ·have hshne:=of_decide_eq_false hsh
    simp only[en,hsh,zA7,zAg,zAf,zAQ,zAU,zAv,zAl,zAa,if_true,if_false,zAb,zAc,decide_true,decide_false,reduceCtorEq,zBT,zEL,zEM,zEI,zEJ,zEK,zBp,zA8]
    exact fail h21 hI21 λw hw hok hs=>hshne (by rw[zZ9 hw hok hs raw];exact hs)
   ·have hsh':=of_decide_eq_true hsh
    have hok:zG5 v=true:=by
     cases hok:zG5 v with
     | true=>rfl
     | false=>exact absurd (by rw[<- hsh'];unfold zHO;rw[hok];rfl) hsne
    obtain⟨h15,st15,a15,k15⟩:=hI21.r.st (n:=4) (ds:=zEm v) (zDH zG7) (zDH hv) zLa
    have e15:=hI21.e.keep k15 (show ¬ H1.size=H.size by omega)
    obtain⟨h16,st16,e16,k16⟩:=e15.st1 (i:=0) (v := .int .i64 0) (by simp) rfl
    have a16:=a15.keep k16 (show ¬ H.size=H1.size by omega)
    simp only[en,hsh,zA7,zAg,zAf,zAQ,zAU,zAv,zAl,zAa,if_true,if_false,zAb,zAc,decide_true,decide_false,reduceCtorEq,zBT,zEL,zEM,zEI,zEJ,zEK,zBp,zA8,zP0 av21 hv,st15,st16,zAW]
    refine zWv λh' hc=>?_
    have a':=a16.closed hc
    have e':=e16.closed hc
    rw[zP0 a' hv,zAa,e'.ld (i:=0) rfl,zAa]
    exact⟨.inl ⟨v,hv,hok,hsh',rfl⟩,zH5 ((hI21.k.fresh k15 λb hb=>by omega).fresh k16 λb hb=>by omega) hc⟩
  ·have hs0:=of_decide_eq_true hse
   simp only[e0,hse,zA7,zAg,zAf,zAQ,zAU,zAv,zAl,zAa,if_true,if_false,zAb,zAc,decide_true,decide_false,reduceCtorEq,zBT,zEL,zEM,zEI,zEJ,zEK,zBp,zA8]
   exact fail h hI λw hw hok hs=>zAfh hw hok (by rw[hs];exact hs0)
 ·rintro c h hsz ⟨rfl,x1,x2,x3,x4⟩
  refine .inr ⟨rfl,zWv λh' hc=>?_⟩
  have a':=x1.closed hc
  have e':=x2.closed hc
  rw[zP0 a' zG7,zAa,e'.ld (i:=0) rfl,zAa]
  refine⟨.inr ⟨λw hw hok hs=>?_,rfl⟩,zH5 x4 hc⟩
  have:=zU3 hw hok
  rw[hs]at this;omega
def zAbW:List Nat:=List.replicate 3 0++[2]
theorem zAcY:eqK prg zAO = .flat zAbW:=by kernel_rfl
theorem zWw {x y:Ver}(hx:x.wf)(hy:y.wf):zCw zAbW (zEm x) (zEm y)=some (decide (x=y)):=by
 have h1:zCw (List.replicate 3 0) (zCm .i64 x.p) (zCm .i64 y.p)=some (decide (x.p=y.p)):=by
  have:=zPZ (k := .i64) (l:=x.p) (m:=y.p) (by rw[hx.p3,hy.p3])
  rwa [hx.p3]at this
 have h2:=zFO (k1:=List.replicate 3 0) (k2:=[2]) (a1:=zCm .i64 x.p) (b1:=zCm .i64 y.p) (a2:=[str x.pre]) (b2:=[str y.pre]) (by simp[hx.p3]) (by simp[hy.p3]) h1 zG6
 unfold zAbW zEm
 rw[h2]
 congr 1
 rw[zAR]
 simp only[zAk,decide_eq_true_eq]
 cases x;cases y;simp
theorem zAbk {x y:Ver}(hx:x.wf)(hy:y.wf):zAB (eqK prg zAO) .eql (.agg (zEm x).toArray) (.agg (zEm y).toArray)=some (.bool (decide (x=y))):=by
 rw[zMI,zAcY]
 show(zCw zAbW (zEm x).toArray.toList (zEm y).toArray.toList).map Value.bool=_
 rw[zA9,zA9,zWw hx hy];rfl
theorem zAlY {x y:Ver}(hx:x.wf)(hy:y.wf):zAB (eqK prg zAO) .neq (.agg (zEm x).toArray) (.agg (zEm y).toArray)=some (.bool (!decide (x=y))):=by
 rw[zMJ,zAcY]
 show(zCw zAbW (zEm x).toArray.toList (zEm y).toArray.toList).map (λb=>Value.bool (!b))=_
 rw[zA9,zA9,zWw hx hy];rfl
structure zTn where
 op:List UInt8
 ver:Ver
instance:DecidableEq zTn:=λa b=>decidable_of_iff (a.op=b.op/\a.ver=b.ver) (by cases a;cases b;simp)
structure zTn.wf (w:zTn):Prop where
 ver:w.ver.wf
 op:w.op.length<=9223372036854775807
def zFC (w:zTn):List Value:=str w.op::zEm w.ver
theorem zGM {w:zTn}(h:w.wf):(zFC w).length=5:=by simp[zFC,zDH h.ver]
theorem zUs {w:zTn}:∀ c∈zFC w,c.oneCell'=true:=by
 intro c hc
 rcases zAs.1 hc with rfl|hc
 ·rfl
 ·exact zLa c hc
def zWx:zTn:=⟨[],zEc⟩
theorem zTE:zWx.wf:=⟨zG7,by simp[zWx]⟩
section
variable {h:zAx} {q:Nat} {w:zTn}
theorem zAai (a:At h q (zFC w))(hw:w.wf):ldN 5 h (Ptr q 0)=some (.agg (zFC w).toArray):=a.ldN (zGM hw)
theorem zWy (a:At h q (zFC w)):ld1 h (Ptr q 0)=some (str w.op):=a.ld rfl
theorem zR1 (a:At h q (zFC w))(hw:w.wf):ldN 4 h (Ptr q 1)=some (.agg (zEm w.ver).toArray):=by
 obtain⟨T,a⟩:=a
 exact ldN_mid (A:=[str w.op]) (B:=zEm w.ver) (C:=[]) (by rw[zAP];exact a) rfl (zDH hw.ver).symm
end
theorem zAfq:eqK prg zBZ = .flat ([2]++zAbW):=by kernel_rfl
theorem zAfr {x y:zTn}(hx:x.wf)(hy:y.wf):zCw ([2]++zAbW) (zFC x) (zFC y)=some (decide (x=y)):=by
 have h2:=zFO (k1:=[2]) (k2:=zAbW) (a1:=[str x.op]) (b1:=[str y.op]) (a2:=zEm x.ver) (b2:=zEm y.ver) rfl rfl zG6 (zWw hx.ver hy.ver)
 show zCw ([2]++zAbW) ([str x.op]++zEm x.ver) ([str y.op]++zEm y.ver)=_
 rw[h2]
 congr 1
 rw[zAR]
 simp only[zAk,decide_eq_true_eq]
 cases x;cases y;simp
theorem zAke {x y:zTn}(hx:x.wf)(hy:y.wf):zAB (eqK prg zBZ) .eql (.agg (zFC x).toArray) (.agg (zFC y).toArray)=some (.bool (decide (x=y))):=by
 rw[zMI,zAfq]
 show(zCw ([2]++zAbW) (zFC x).toArray.toList (zFC y).toArray.toList).map Value.bool=_
 rw[zA9,zA9,zAfr hx hy];rfl
def zAaj:List (List UInt8):=[[33,61],[60,61],[62,61],[61],[60],[62],[94],[42]]
def zQW (H:zAx):Prop:=∃ T f,H[zEu]? = some (.cells (zAaj.map str).toArray T f)
theorem zQW.keep {S:zA1}{H H':zAx}(h:zQW H)(k:Keep S H H')(hs:∀ b,S b->NG<=b):zQW H':=by
 obtain⟨T,f,h⟩:=h
 exact⟨T,f,k.at h λh=>absurd (hs _ h) (by decide)⟩
theorem zAfs {op:List UInt8}:op∈zAaj↔op∈zAfj\/op=[42]:=by
 unfold zAaj zAfj
 simp only[zAs,zCL,or_false]
 constructor
 ·rintro(h|h|h|h|h|h|h|h)<;>simp[h]
 ·rintro((h|h|h|h|h|h|h)|h)<;>simp[h]
theorem zAbl {H:zAx}{op:List UInt8}(hO:zQW H):zAA prg zEo [.slice (some ⟨zEu,0,none⟩) 8 8,str op] H λu H'=>u = .bool (decide (op∈zAaj))/\H=H':=by
 apply zHM
 unfold zFW
 refine zAI (R:=λu H'=>(∃ i:Int,u = .int .i64 i/\(decide (i>=0)=decide (op∈zAaj)))/\H=H') ?_ ?_
 ·apply zIt
  unfold zGI
  obtain⟨T,f,hO⟩:=hO
  refine zOt (λu h=>op∉zAaj/\H=h) (λk2 hk2=>?_) ?_
  ·rw[zKO,zAa]
   refine zKj (λu h=>∃ i:Nat,i<=8/\u = .int .i64 (i:Nat)/\op∉zAaj.take i/\H=h) (λu _=>match u with | .int _ t=>8-t.toNat|_=>0) ⟨0,by omega,rfl,by simp,rfl⟩ ?_
   rintro _ _ ⟨i,hi,rfl,hn,rfl⟩ k hk
   have e8:((8:Nat):Int)=8:=rfl
   simp only[e8,zAJ,zC8,zAa,zAl,decide_eq_true_eq]
   by_cases hlt:(i:Int)<8
   ·rw[if_pos hlt]
    have hl:zAaj.length=8:=rfl
    have hx:zAaj[i]? = some (zAaj[i]'(by omega)):=zAj _
    generalize (zAaj[i]'(by omega))=x at hx
    have e1:ixS 1 (.slice (some ⟨zEu,0,none⟩) 8 8) (.int .i64 (i:Nat))=some (Ptr zEu i):=by
     simp only[ixS];rw[if_pos ⟨by omega,by omega⟩];simp
    have e2:ld1 H (Ptr zEu i)=some (str x):=zSp hO (by simp[hx])
    have hinc:IntKind.i64.wrap ((i:Int)+1)=(i+1:Nat):=by rw[zCe]<;>omega
    simp only[e1,e2,zAa,zDV,zAl,zAJ,zC8,hinc,decide_eq_true_eq]
    by_cases hxo:op=x
    ·rw[if_pos hxo]
     refine⟨⟨i,rfl,?_⟩,by trivial⟩
     rw[decide_eq_true (show op∈zAaj from hxo ▸ zAC hx),decide_eq_true (by omega)]
    ·rw[if_neg hxo]
     refine hk _ _ ⟨i+1,by omega,rfl,?_,rfl⟩ (by show 8-(i+1)<8-i;omega)
     rw[zAG,hx]
     simp only[Option.toList_some,zAp,zAD,not_or]
     exact⟨hn,hxo⟩
   ·rw[if_neg hlt]
    rw[zAr (by show 8<=i;omega)]at hn
    exact hk2 _ _ ⟨hn,rfl⟩
  rintro _ _ ⟨hn,rfl⟩
  exact⟨⟨-1,rfl,by rw[decide_eq_false hn];rfl⟩,rfl⟩
 ·rintro _ _ ⟨⟨i,rfl,hi⟩,rfl⟩
  simp only[zAJ,zC8,zAa,hi]
  exact⟨by trivial,by trivial⟩
def zH6 (w:zTn):Bool:=bif decide (w.op=[42]) then decide (w.ver=zEc) else decide (w.op∈zAfj)&&zG5 w.ver
theorem zM3 {H:zAx}{w:zTn}(hw:w.wf)(hO:zQW H):zAA prg zDS [.agg (zFC w).toArray] H λu H'=>u = .bool (zH6 w)/\Keep zAK H H':=by
 apply zMM
 unfold zLj
 simp only[zB8,zBb]
 generalize hH1:H.push (.cells (zFC w).toArray zBZ (0,0))=H1
 have k1:Keep zAK H H1:=by rw[<- hH1];exact Keep.push
 have a1:At H1 H.size (zFC w):=by rw[<- hH1];exact At.push
 have es:=λq=>zDV (q:=q) (a:=w.op) (b:=[42])
 have sl:slA 8 1 (.pointer (some ⟨zEu,0,none⟩)) none none none=some (.slice (some ⟨zEu,0,none⟩) 8 8):=by simp[slA,zNp,bnd]
 unfold zH6
 cases hs:decide (w.op=[42])<;>simp only[zBf,zAi,zWy a1,zR1 a1 hw,es,hs,zAlV,zAbk hw.ver zG7,sl,zA7,zAg,zAf,zAQ,zAU,zAv,zAl,zAa,if_true,if_false,zAb,zAc,decide_true,decide_false,reduceCtorEq,zBT,zEL,zEM,zEI,zEJ,zEK,zBp,zA8,cond_true,cond_false]
 ·refine zAI (zAbl (hO.keep k1 λ_ h=>h.elim)) ?_
  rintro _ _ ⟨rfl,rfl⟩
  have hm:decide (w.op∈zAaj)=decide (w.op∈zAfj):=by
   rw[decide_eq_decide,zAfs]
   exact⟨λh=>h.resolve_right (of_decide_eq_false hs),.inl⟩
  rw[hm]
  cases hr:decide (w.op∈zAfj)<;>simp only[zA7,zAg,zAf,zAQ,zAU,zAv,zAl,zAa,if_true,if_false,zAb,zAc,decide_true,decide_false,reduceCtorEq,zBT,zEL,zEM,zEI,zEJ,zEK,zBp,zA8,zBf,zAi,zR1 a1 hw,zA2,zBa]
  ·exact⟨by trivial,k1⟩
  ·refine zAI (zQl hw.ver) ?_
   rintro _ h2 ⟨rfl,k2⟩
   simp only[zA7,zAg,zAf,zAQ,zAU,zAv,zAl,zAa,if_true,if_false,zAb,zAc,decide_true,decide_false,reduceCtorEq,zBT,zEL,zEM,zEI,zEJ,zEK,zBp,zA8]
   exact⟨by trivial,k1.trans k2⟩
 ·exact⟨by trivial,k1⟩
theorem zAft {op:List UInt8}(h:op∈zAfj):op.length<=2:=by
 unfold zAfj at h
 simp only[zAs,zCL,or_false]at h
 rcases h with h|h|h|h|h|h|h<;>simp[h]
def zUt (w:zTn):List UInt8:=bif zH6 w then (bif decide (w.op=[42]) then [42] else w.op++zHO w.ver) else []
theorem zXL {w:zTn}(h:zH6 w=true)(hs:decide (w.op=[42])=false):w.op∈zAfj/\zG5 w.ver=true:=by
 unfold zH6 at h
 rw[hs,cond_false,zAk,decide_eq_true_eq]at h
 exact h
theorem zAbm {H:zAx}{w:zTn}(hw:w.wf)(hO:zQW H)(hT:zXF H):zAA prg zFF [.agg (zFC w).toArray] H λu H'=>u=str (zUt w)/\Keep zAK H H':=by
 apply zNj
 unfold zL3
 simp only[zB8,zBb]
 generalize hH1:H.push (.cells (zFC w).toArray zBZ (0,0))=H1
 have k1:Keep zAK H H1:=by rw[<- hH1];exact Keep.push
 have a1:At H1 H.size (zFC w):=by rw[<- hH1];exact At.push
 rw[show(Value.pointer (some ⟨H.size,0,none⟩))=Ptr H.size 0 from rfl,zAai a1 hw,zAa]
 refine zAI (zM3 hw (hO.keep k1 λ_ h=>h.elim)) ?_
 rintro _ h2 ⟨rfl,k2⟩
 have a2:=a1.keep k2 id
 have k12:=k1.trans k2
 have es:=λq=>zDV (q:=q) (a:=w.op) (b:=[42])
 unfold zUt
 cases hok:zH6 w<;>simp only[zA7,zAg,zAf,zAQ,zAU,zAv,zAl,zAa,if_true,if_false,zAb,zAc,decide_true,decide_false,reduceCtorEq,zBT,zEL,zEM,zEI,zEJ,zEK,zBp,zA8,cond_true,cond_false]
 ·exact⟨by trivial,k12⟩
 ·cases hs:decide (w.op=[42])<;>simp only[zBf,zAi,zWy a2,zR1 a2 hw,es,hs,zA7,zAg,zAf,zAQ,zAU,zAv,zAl,zAa,if_true,if_false,zAb,zAc,decide_true,decide_false,reduceCtorEq,zBT,zEL,zEM,zEI,zEJ,zEK,zBp,zA8,cond_true,cond_false]
  ·refine zAI (zWm hw.ver (hT.keep k12 λ_ h=>h.elim)) ?_
   rintro _ h3 ⟨rfl,k3⟩
   have a3:=a2.keep k3 id
   obtain⟨hr,hv⟩:=zXL hok hs
   have l1:=zAft hr
   have l2:=zRZ (v:=w.ver) hw.ver.p3
   simp only[zWy a3,zUp (show w.op.length+(zHO w.ver).length<=9223372036854775807 by omega),zA7,zAg,zAf,zAQ,zAU,zAv,zAl,zAa,if_true,if_false,zAb,zAc,decide_true,decide_false,reduceCtorEq,zBT,zEL,zEM,zEI,zEJ,zEK,zBp,zA8]
   exact⟨by trivial,k12.trans k3⟩
  ·exact⟨by trivial,k12⟩
theorem zAak {H:zAx}{q r n c c':Nat}{v w:Ver}(hv:v.wf)(hw:w.wf)(a:At H q (zEm v))(b:At H r (zEm w))(hn:n<=3) :
  zAA prg zGy [.slice (some ⟨q,0,none⟩) n c,.slice (some ⟨r,0,none⟩) n c'] H λu H'=>u = .bool (decide (v.p.take n=w.p.take n))/\H=H':=by
 apply zKT
 unfold zIJ
 have hp3:=hv.p3
 have hq3:=hw.p3
 have e0:zAB .no .neq (.int .i64 (n:Nat)) (.int .i64 (n:Nat))=some (.bool false):=by rw[zAJ];simp[zC8]
 simp only[zKO,e0,zA7,zAg,zAf,zAQ,zAU,zAv,zAl,zAa,if_true,if_false,zAb,zAc,decide_true,decide_false,reduceCtorEq,zBT,zEL,zEM,zEI,zEJ,zEK,zBp,zA8]
 refine zKj (λu h=>∃ i:Nat,i<=n/\u = .int .i64 (i:Nat)/\v.p.take i=w.p.take i/\H=h) (λu _=>match u with | .int _ t=>n-t.toNat|_=>0) ⟨0,by omega,rfl,rfl,rfl⟩ ?_
 rintro _ _ ⟨i,hi,rfl,ht,rfl⟩ k hk
 simp only[zAJ,zC8,zAa,zAl,decide_eq_true_eq]
 by_cases hlt:(i:Int)<n
 ·rw[if_pos hlt]
  have h1:v.p[i]? = some (v.p[i]'(by omega)):=zAj _
  have h2:w.p[i]? = some (w.p[i]'(by omega)):=zAj _
  generalize (v.p[i]'(by omega))=x at h1
  generalize (w.p[i]'(by omega))=y at h2
  have hinc:IntKind.i64.wrap ((i:Int)+1)=(i+1:Nat):=by rw[zCe]<;>omega
  have i1:ixS 1 (.slice (some ⟨q,0,none⟩) n c) (.int .i64 (i:Nat))=some (Ptr q i):=by
   simp only[ixS];rw[if_pos ⟨by omega,by omega⟩];simp
  have i2:ixS 1 (.slice (some ⟨r,0,none⟩) n c') (.int .i64 (i:Nat))=some (Ptr r i):=by
   simp only[ixS];rw[if_pos ⟨by omega,by omega⟩];simp
  simp only[i1,i2,zAa,zR0 a h1,zR0 b h2,zAJ,zC8,zAl,hinc,bne_iff_ne,ne_eq]
  by_cases hxy:x=y
  ·subst hxy
   rw[if_neg (by simp)]
   exact hk _ _ ⟨i+1,by omega,rfl,zAab ht h1 h2,rfl⟩ (by show n-(i+1)<n-i;omega)
  ·rw[if_pos hxy]
   refine⟨?_,by trivial⟩
   rw[decide_eq_false]
   intro he
   have:=congrArg (·[i]?) he
   simp only[zCr]at this
   rw[if_pos (by omega),if_pos (by omega),h1,h2]at this
   exact hxy (zAN this)
 ·rw[if_neg hlt]
  obtain rfl:i=n:=by omega
  exact⟨by rw[decide_eq_true ht],by trivial⟩
theorem zAkf {H:zAx}{w v:Ver}(hw:w.wf)(hv:v.wf):zAA prg zNF [.agg (zEm w).toArray,.agg (zEm v).toArray] H λu H'=>u = .bool ((vp0 v == vp0 w)&&(vp0 w != 0 || vp1 v == vp1 w))/\Keep zAK H H':=by
 apply zPP
 unfold zPO
 simp only[zB8,zBb]
 generalize hH1:H.push (.cells (zEm w).toArray zAO (0,0))=H1
 have k1:Keep zAK H H1:=by rw[<- hH1];exact Keep.push
 have a1:At H1 H.size (zEm w):=by rw[<- hH1];exact At.push
 generalize hH2:H1.push (.cells (zEm v).toArray zAO (0,0))=H2
 have k2:Keep zAK H1 H2:=by rw[<- hH2];exact Keep.push
 have b2:At H2 H1.size (zEm v):=by rw[<- hH2];exact At.push
 have a2:=a1.keep k2 id
 have kk:=k1.trans k2
 obtain⟨x,y,z,hp⟩:=Ver.cases3 hv
 obtain⟨x',y',z',hp'⟩:=Ver.cases3 hw
 have px':ld1 H2 (Ptr H.size 0)=some (.int .i64 x'):=zR0 a2 (i:=0) (by rw[hp'];rfl)
 have p0v:vp0 v=x:=by unfold vp0;rw[hp];rfl
 have p1v:vp1 v=y:=by unfold vp1;rw[hp];rfl
 have p0w:vp0 w=x':=by unfold vp0;rw[hp'];rfl
 have p1w:vp1 w=y':=by unfold vp1;rw[hp'];rfl
 have sl2:∀ q:Nat,slA 3 1 (Ptr q 0) none (some (.int .i64 2)) none=some (.slice (some ⟨q,0,none⟩) 2 3):=λq=>by simp[slA,zNp,bnd]
 have sl1:∀ q:Nat,slA 3 1 (Ptr q 0) none (some (.int .i64 1)) none=some (.slice (some ⟨q,0,none⟩) 1 3):=λq=>by simp[slA,zNp,bnd]
 rw[p0v,p1v,p0w,p1w]
 cases h0:(x' == 0)<;>simp only[zBf,zAi,ix0,px',zAJ,zC8,h0,sl1,sl2,zA7,zAg,zAf,zAQ,zAU,zAv,zAl,zAa,if_true,if_false,zAb,zAc,decide_true,decide_false,reduceCtorEq,zBT,zEL,zEM,zEI,zEJ,zEK,zBp,zA8]
 ·refine zAI (zAak hw hv a2 b2 (n:=1) (by omega)) ?_
  rintro _ _ ⟨rfl,rfl⟩
  refine⟨?_,kk⟩
  congr 1
  have h0':x'≠0:=by simpa using h0
  rw[hp,hp',show List.take 1 [x',y',z']=[x'] from rfl,show List.take 1 [x,y,z]=[x] from rfl,zAR]
  simp only[decide_eq_true_eq,List.cons.injEq,and_true,zAk,beq_iff_eq,zB9,bne_iff_ne,ne_eq,h0',not_false_eq_true,true_or]
  exact⟨Eq.symm,Eq.symm⟩
 ·refine zAI (zAak hw hv a2 b2 (n:=2) (by omega)) ?_
  rintro _ _ ⟨rfl,rfl⟩
  refine⟨?_,kk⟩
  congr 1
  have h0':x'=0:=by simpa using h0
  rw[hp,hp',show List.take 2 [x',y',z']=[x',y'] from rfl,show List.take 2 [x,y,z]=[x,y] from rfl,zAR]
  simp only[decide_eq_true_eq,List.cons.injEq,and_true,zAk,beq_iff_eq,zB9,bne_iff_ne,ne_eq,h0',not_true_eq_false,false_or]
  exact⟨λh=>⟨h.1.symm,h.2.symm⟩,λh=>⟨h.1.symm,h.2.symm⟩⟩
theorem zSQ {H:zAx}{w:zTn}{v:Ver}(hw:w.wf)(hv:v.wf)(hO:zQW H):zAA prg zFD [.agg (zFC w).toArray,.agg (zEm v).toArray] H λu H'=>u = .bool (zH6 w&&zG5 v&&zYZ w.op w.ver v)/\Keep zAK H H':=by
 apply zNk
 unfold zL4
 simp only[zB8,zBb]
 generalize hH1:H.push (.cells (zFC w).toArray zBZ (0,0))=H1
 have k1:Keep zAK H H1:=by rw[<- hH1];exact Keep.push
 have a1:At H1 H.size (zFC w):=by rw[<- hH1];exact At.push
 generalize hH2:H1.push (.cells (zEm v).toArray zAO (0,0))=H2
 have k2:Keep zAK H1 H2:=by rw[<- hH2];exact Keep.push
 have b2:At H2 H1.size (zEm v):=by rw[<- hH2];exact At.push
 have a2:=a1.keep k2 id
 have k02:=k1.trans k2
 rw[show(Value.pointer (some ⟨H.size,0,none⟩))=Ptr H.size 0 from rfl,zAai a2 hw,zAa]
 refine zAI (zM3 hw (hO.keep k02 λ_ h=>h.elim)) ?_
 rintro _ h3 ⟨rfl,k3⟩
 have a3:=a2.keep k3 id
 have b3:=b2.keep k3 id
 have k03:=k02.trans k3
 cases hok:zH6 w<;>simp only[zA7,zAg,zAf,zAQ,zAU,zAv,zAl,zAa,if_true,if_false,zAb,zAc,decide_true,decide_false,reduceCtorEq,zBT,zEL,zEM,zEI,zEJ,zEK,zBp,zA8,zA2,zBa,zP0 b3 hv]
 ·exact⟨by trivial,k03⟩
 refine zAI (zQl hv) ?_
 rintro _ h4 ⟨rfl,k4⟩
 have a4:=a3.keep k4 id
 have b4:=b3.keep k4 id
 have k04:=k03.trans k4
 cases hvo:zG5 v<;>simp only[zA7,zAg,zAf,zAQ,zAU,zAv,zAl,zAa,if_true,if_false,zAb,zAc,decide_true,decide_false,reduceCtorEq,zBT,zEL,zEM,zEI,zEJ,zEK,zBp,zA8,zBf,zAi,zP0 b4 hv,zR1 a4 hw,zA2,zBa]
 ·exact⟨by trivial,k04⟩
 refine zAI (zAka hv hw.ver) ?_
 rintro _ h7 ⟨rfl,k7⟩
 have a7:=a4.keep k7 id
 have b7:=b4.keep k7 id
 have kk:=k04.trans k7
 have e1:=λq=>zDV (q:=q) (a:=w.op) (b:=[61])
 have e2:=λq=>zDV (q:=q) (a:=w.op) (b:=[33,61])
 have e3:=λq=>zDV (q:=q) (a:=w.op) (b:=[60])
 have e4:=λq=>zDV (q:=q) (a:=w.op) (b:=[60,61])
 have e5:=λq=>zDV (q:=q) (a:=w.op) (b:=[62])
 have e6:=λq=>zDV (q:=q) (a:=w.op) (b:=[62,61])
 have e7:=λq=>zDV (q:=q) (a:=w.op) (b:=[94])
 have ht:=zQo.turn v w.ver
 have l1:ltV v w.ver=decide (zAet v w.ver<0):=rfl
 have l2:ltV w.ver v=decide (0<zAet v w.ver):=by unfold ltV;rw[decide_eq_decide];omega
 unfold zYZ
 rw[l1,l2]
 generalize zAet v w.ver=c
 simp only[zWy a7,zAa]
 rw[e1,zAa]
 cases h1:decide (w.op=[61])
 rotate_left
 ·simp only[zA7,zAg,zAf,zAQ,zAU,zAv,zAl,zAa,if_true,if_false,zAb,zAc,decide_true,decide_false,reduceCtorEq,zBT,zEL,zEM,zEI,zEJ,zEK,zBp,zA8,zAJ,zC8,cond_true]
  refine⟨?_,kk⟩
  congr 1;rw[zAR];simp;omega
 rw[zAl,if_neg (by decide),e2,zAa]
 cases h2:decide (w.op=[33,61])
 rotate_left
 ·simp only[zA7,zAg,zAf,zAQ,zAU,zAv,zAl,zAa,if_true,if_false,zAb,zAc,decide_true,decide_false,reduceCtorEq,zBT,zEL,zEM,zEI,zEJ,zEK,zBp,zA8,zAJ,zC8,cond_true,cond_false]
  refine⟨?_,kk⟩
  congr 1;rw[zAR];simp;omega
 rw[zAl,if_neg (by decide),e3,zAa]
 cases h3:decide (w.op=[60])
 rotate_left
 ·simp only[zA7,zAg,zAf,zAQ,zAU,zAv,zAl,zAa,if_true,if_false,zAb,zAc,decide_true,decide_false,reduceCtorEq,zBT,zEL,zEM,zEI,zEJ,zEK,zBp,zA8,zAJ,zC8,cond_true,cond_false];exact⟨by trivial,kk⟩
 rw[zAl,if_neg (by decide),e4,zAa]
 cases h4':decide (w.op=[60,61])
 rotate_left
 ·simp only[zA7,zAg,zAf,zAQ,zAU,zAv,zAl,zAa,if_true,if_false,zAb,zAc,decide_true,decide_false,reduceCtorEq,zBT,zEL,zEM,zEI,zEJ,zEK,zBp,zA8,zAJ,zC8,cond_true,cond_false]
  refine⟨?_,kk⟩
  congr 1;rw[zAR];simp
 rw[zAl,if_neg (by decide),e5,zAa]
 cases h5:decide (w.op=[62])
 rotate_left
 ·simp only[zA7,zAg,zAf,zAQ,zAU,zAv,zAl,zAa,if_true,if_false,zAb,zAc,decide_true,decide_false,reduceCtorEq,zBT,zEL,zEM,zEI,zEJ,zEK,zBp,zA8,zAJ,zC8,cond_true,cond_false];exact⟨by trivial,kk⟩
 rw[zAl,if_neg (by decide),e6,zAa]
 cases h6:decide (w.op=[62,61])
 rotate_left
 ·simp only[zA7,zAg,zAf,zAQ,zAU,zAv,zAl,zAa,if_true,if_false,zAb,zAc,decide_true,decide_false,reduceCtorEq,zBT,zEL,zEM,zEI,zEJ,zEK,zBp,zA8,zAJ,zC8,cond_true,cond_false]
  refine⟨?_,kk⟩
  congr 1;rw[zAR];simp
 rw[zAl,if_neg (by decide),e7,zAa]
 cases h7:decide (w.op=[94])
 rotate_left
 ·have hge:(c>=0)↔¬ (c<0):=by omega
  have hd:decide (c>=0) = !decide (c<0):=by rw[zAR];simp
  cases hc:decide (c<0)<;>rw[hc]at hd<;>simp only[zA7,zAg,zAf,zAQ,zAU,zAv,zAl,zAa,if_true,if_false,zAb,zAc,decide_true,decide_false,reduceCtorEq,zBT,zEL,zEM,zEI,zEJ,zEK,zBp,zA8,zBf,zAi,zAJ,zC8,hd,zR1 a7 hw,zP0 b7 hv,cond_true,cond_false,zA2,zBa]
  ·refine zAI (zAkf hw.ver hv) ?_
   rintro _ h9 ⟨rfl,k9⟩
   simp only[zA7,zAg,zAf,zAQ,zAU,zAv,zAl,zAa,if_true,if_false,zAb,zAc,decide_true,decide_false,reduceCtorEq,zBT,zEL,zEM,zEI,zEJ,zEK,zBp,zA8]
   exact⟨by trivial,kk.trans k9⟩
  ·exact⟨by trivial,kk⟩
 ·simp only[zA7,zAg,zAf,zAQ,zAU,zAv,zAl,zAa,if_true,if_false,zAb,zAc,decide_true,decide_false,reduceCtorEq,zBT,zEL,zEM,zEI,zEJ,zEK,zBp,zA8,cond_false];exact⟨by trivial,kk⟩
theorem zAcZ {α:Type}{f:α->Bool}:∀ {l:List α} {i:Nat} {x:α},(∀ p∈l.take i,f p=false)->l[i]? = some x->f x=true->l.find? f=some x
 | [],i,x,_,h,_=>by simp at h
 | y::l,0,x,_,h,hx=>by
  obtain rfl:y=x:=by simpa using h
  simp[List.find?,hx]
 | y::l,i+1,x,h1,h,hx=>by
  have hy:=h1 y (by simp)
  simp only[List.find?,hy]
  exact zAcZ (i:=i) (λp hp=>h1 p (by rw[zBX];exact zCY _ hp)) (by simpa using h) hx
theorem zAkg:zBI prg zBZ=some (zFC zWx).toArray:=by kernel_rfl
theorem zAgT:zLM prg zBZ=some ([(0,1),(1,4)],(zFC zWx).toArray):=by kernel_rfl
theorem b_W {op:List UInt8}:zCM prg zBZ [(0,str op)]=some (.agg (zFC ⟨op,zEc⟩).toArray):=by rw[zHZ zAgT];rfl
theorem zAnr:zCM prg zBZ []=some (.agg (zFC zWx).toArray):=by kernel_rfl
structure zWz (H:zAx):Prop where
 err:zAfn H
 pow:zXF H
 ops:zQW H
theorem zWz.keep {S:zA1}{H H':zAx}(h:zWz H)(k:Keep S H H')(hs:∀ b,S b->NG<=b):zWz H':=⟨h.err.keep k hs,h.pow.keep k hs,h.ops.keep k hs⟩
end Go.Proofs.YticdfkoncnnmmaaGreatDoor
