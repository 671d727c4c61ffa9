import Derived.Test.YticdfkoncnnmmaaGreatDoorGA
set_option linter.unusedSimpArgs false
set_option linter.unusedVariables false
namespace Go.X
theorem zPH:∀ {ks:List Nat} {a c:List Value} {r:Bool},zCG ks a c=some r->a.length=ks.length/\c.length=ks.length
 | [],[],[],_,_=>⟨rfl,rfl⟩
 | [],[],_::_,_,h=>by simp[zCG]at h
 | [],_::_,_,_,h=>by simp[zCG]at h
 | _::_,[],_,_,h=>by simp[zCG]at h
 | _::_,_::_,[],_,h=>by simp[zCG]at h
 | k::ks,x::a,y::c,r,h=>by
  simp only[zCG]at h
  split at h
  ·rename_i h2
   have:=zPH h2
   simp[this]
  ·cases h
theorem zSm {a c:List Value}{r:Bool}(h:zCG [] a c=some r):r=true:=by
 cases a<;>cases c<;>simp[zCG]at h
 exact h
theorem zQb:∀ {ks js:List Nat} {a c:List Value} {r:Bool},zCG (ks++js) a c=some r ->
  ∃ x y,zCG ks (a.take ks.length) (c.take ks.length)=some x/\zCG js (a.drop ks.length) (c.drop ks.length)=some y/\r=(x&&y)
 | [],js,a,c,r,h=>⟨true,r,rfl,by simpa using h,by simp⟩
 | k::ks,js,[],c,r,h=>by cases c<;>simp[zCG]at h
 | k::ks,js,x::a,[],r,h=>by simp[zCG]at h
 | k::ks,js,x::a,y::c,r,h=>by
  simp only[zCm,zCG]at h
  cases hxy:zM5 k x y with
  | none=>simp[hxy]at h
  | some q =>
   cases hr:zCG (ks++js) a c with
   | none=>simp[hxy,hr]at h
   | some q' =>
    simp only[hxy,hr,zAk]at h
    obtain⟨u,v,hu,hv,hq'⟩:=zQb hr
    exact⟨q&&u,v,by simp[zCG,hxy,hu],by simpa using hv,by rw[<- h,hq',Bool.and_assoc]⟩
def zPg (P:Program)(T:TypeId)(xs:Array Value):Value:=if zL7 P T then .agg xs else xs.getD 0 undef
theorem zTy {P:Program}{w:World}{T:TypeId}{d:TypeDesc}(hu:P.underlying T=some d){cs:Array Value}{off:Nat}(hle:off+P.cellsOf T<=cs.size)(hs:zL7 P T=false->P.cellsOf T=1) :
  (part T cs off).run P w = .ok (zPg P T (cs.extract off (off+P.cellsOf T))) w:=by
 refine zR2 hu ?_
 unfold zUe zPg
 cases ha:zL7 P T with
 | true=>simp
 | false =>
  have:=hs ha
  have hlt:off<cs.size:=by omega
  simp only[zAb,if_false,this,Array.getD,Array.size_extract]
  rw[dif_pos (by omega),zBj hlt]
  simp
theorem zLe {cs:Array Value}{i n:Nat}:(cs.extract i (i+n)).toList=(cs.toList.drop i).take n:=by simp
theorem zXB {P:Program}{d:Nat}{T:TypeId}{ks:List Nat}(h:zOq P d T=some ks):∃ u,P.underlying T=some u:=by
 cases d with
 | zero=>simp[zOq]at h
 | succ d =>
  unfold zOq at h
  cases hu:P.underlying T with
  | none=>simp[hu]at h
  | some u=>exact⟨u,rfl⟩
theorem zAcB {P:Program}{d:Nat}{T:TypeId}{ks:List Nat}(h:zOq P d T=some ks)(ha:zL7 P T=false):ks.length=1:=by
 cases d with
 | zero=>simp[zOq]at h
 | succ d =>
  unfold zOq at h
  unfold zL7 at ha
  split at h<;>simp_all<;>subst h<;>rfl
def zXC (P:Program)(d D:Nat):Prop:=∀ (T:TypeId) (ks:List Nat) (xs ys:Array Value) (r:Bool),zOq P d T=some ks->zCG ks xs.toList ys.toList=some r->∀ w,(Op.equalIn D T (zPg P T xs) (zPg P T ys)).run P w = .ok r w
theorem zXD {P:Program}{d D:Nat}(ih:zXC P d D){T:TypeId}{ks js:List Nat}(hf:zOq P d T=some ks)(hl:ks.length=P.cellsOf T){xs ys:Array Value}{o:Nat}{r:Bool}
  (h:zCG (ks++js) (xs.toList.drop o) (ys.toList.drop o)=some r) (w:World):∃ x y,r=(x&&y) /\
   (part T xs o).run P w = .ok (zPg P T (xs.extract o (o+P.cellsOf T))) w/\(part T ys o).run P w = .ok (zPg P T (ys.extract o (o+P.cellsOf T))) w /\
   (Op.equalIn D T (zPg P T (xs.extract o (o+P.cellsOf T))) (zPg P T (ys.extract o (o+P.cellsOf T)))).run P w = .ok x w /\
   zCG js (xs.toList.drop (o+P.cellsOf T)) (ys.toList.drop (o+P.cellsOf T))=some y:=by
 obtain⟨u,hu⟩:=zXB hf
 obtain⟨hlx,hly⟩:=zPH h
 simp only[zCN,zAy,Array.length_toList,hl]at hlx hly
 obtain⟨x,y,h1,h2,rfl⟩:=zQb h
 rw[hl]at h1 h2
 have hs:zL7 P T=false->P.cellsOf T=1:=λha=>by rw[<- hl];exact zAcB hf ha
 rcases Nat.eq_zero_or_pos (P.cellsOf T) with hz|hz
 ·have ha:zL7 P T=true:=by
   cases ha:zL7 P T with
   | true=>rfl
   | false=>have:=hs ha;omega
  have p:∀ cs:Array Value,(part T cs o).run P w = .ok (zPg P T (cs.extract o (o+P.cellsOf T))) w:=λcs=>by
   refine zR2 hu ?_
   simp[zUe,zPg,ha]
  exact⟨x,y,rfl,p xs,p ys,ih T ks _ _ x hf (by rw[zLe,zLe];exact h1) w,by simpa [zCz] using h2⟩
 ·exact⟨x,y,rfl,zTy hu (by omega) hs,zTy hu (by omega) hs,ih T ks _ _ x hf (by rw[zLe,zLe];exact h1) w,by simpa [zCz] using h2⟩
theorem zVf {P:Program}(d D:Nat)(ih:zXC P d D)(xs ys:Array Value)(w:World):∀ (fs:List Field) (o:Nat) (ks:List Nat) (r:Bool),zQY P (zOq P d) o fs=some ks ->
  zCG ks (xs.toList.drop o) (ys.toList.drop o)=some r->(Op.eqFields D xs ys fs).run P w = .ok r w
 | [],o,ks,r,ht,h=>by
  simp only[zQY,zAk]at ht
  subst ht
  cases zSm h
  rfl
 | f::fs,o,ks,r,ht,h=>by
  simp only[zQY]at ht
  split at ht
  ·rename_i hc
   simp only[zAm,beq_iff_eq,bne_iff_ne,ne_eq]at hc
   obtain⟨rfl,hn⟩:=hc
   split at ht
   ·rename_i k1 hk1
    split at ht
    ·rename_i hl
     cases hr:zQY P (zOq P d) (f.offset+P.cellsOf f.type) fs with
     | none=>simp[hr]at ht
     | some k2 =>
      simp only[hr,zAO,zAk]at ht
      subst ht
      obtain⟨x,y,rfl,p1,p2,e1,h2⟩:=zXD ih hk1 (by simpa using hl) h w
      have e2:=zVf d D ih xs ys w fs _ k2 y hr h2
      simp only[Op.eqFields,ne_eq,hn,not_false_eq_true,if_true,Sem.run_bind,p1,p2,Result.andThen_ok,e1,Sem.run_ite]
      cases x with
      | false=>simp
      | true=>simpa using e2
    ·cases ht
   ·cases ht
  ·cases ht
def zQZ (d:Nat)(e n:Nat)(xs ys:Array Value):List Nat->Sem Bool
 | []=>pure true
 | i::is=>do
  let a <- part e xs (i*n)
  let b <- part e ys (i*n)
  let r <- Op.equalIn d e a b
  if (!r)=true then pure false else zQZ d e n xs ys is
theorem zQ0 {P:Program}(w:World)(d:Nat)(t e n:Nat){i:TypeInfo}(xs ys:Array Value)(ht:P.underlying t=some (.array n e))(hi:P.info? e=some i) :
  (Op.equalIn (d+1) t (.agg xs) (.agg ys)).run P w=(zQZ d e (P.cellsOf e) xs ys (List.range' 0 n)).run P w:=by
 simp only[Op.equalIn,Sem.run_bind,run_underlying ht,Result.andThen_ok,zDZ hi]
 rw[Std.Legacy.Range.forIn_eq_forIn_range']
 simp only[Std.Legacy.Range.size,Nat.sub_zero,Nat.add_sub_cancel,Nat.div_one]
 generalize List.range' 0 n 1=l
 clear ht
 induction l generalizing w with
 | nil=>simp[zQZ]
 | cons f fs ih =>
  simp only[List.forIn_cons,zQZ,Sem.run_bind]
  generalize (part e xs (f*P.cellsOf e)).run P w=r1
  cases r1 with
  | ok a w1 =>
   simp only[Result.andThen_ok]
   generalize (part e ys (f*P.cellsOf e)).run P w1=r2
   cases r2 with
   | ok b w2 =>
    simp only[Result.andThen_ok]
    generalize (Op.equalIn d e a b).run P w2=r3
    cases r3 with
    | ok r w3 =>
     cases r
     ·simp[Result.andThen_ok,Sem.run_ite]
     ·simp only[Result.andThen_ok,zAe,zAb,if_false,Sem.run_pure,Sem.run_ite]
      exact ih w3
    | halt x w3=>simp[Result.andThen]
   | halt x w2=>simp[Result.andThen]
  | halt x w1=>simp[Result.andThen]
theorem zXE {P:Program}(d D:Nat)(ih:zXC P d D){e:TypeId}{ks:List Nat}(hf:zOq P d e=some ks)(hl:ks.length=P.cellsOf e)(xs ys:Array Value)(w:World):∀ (n i:Nat) (r:Bool),
  zCG (List.replicate n ks).flatten (xs.toList.drop (i*P.cellsOf e)) (ys.toList.drop (i*P.cellsOf e))=some r ->
  (zQZ D e (P.cellsOf e) xs ys (List.range' i n)).run P w = .ok r w
 | 0,i,r,h=>by
  simp only[List.replicate_zero,List.flatten_nil]at h
  cases zSm h
  rfl
 | n+1,i,r,h=>by
  rw[List.replicate_succ,zBv]at h
  obtain⟨x,y,rfl,p1,p2,e1,h2⟩:=zXD ih hf hl h w
  have e2:=zXE d D ih hf hl xs ys w n (i+1) y (by rw[Nat.add_mul,Nat.one_mul];exact h2)
  simp only[List.range'_succ,zQZ,Sem.run_bind,p1,p2,Result.andThen_ok,e1,Sem.run_ite]
  cases x with
  | false=>simp
  | true=>simpa using e2
theorem zZ5 {k:Nat}{l m:List Value}{r:Bool}(h:zCG [k] l m=some r):∃ a b,l=[a]/\m=[b]/\zM5 k a b=some r:=by
 obtain⟨h1,h2⟩:=zPH h
 match l,m,h1,h2 with
 | [a],[b],_,_ =>
  refine⟨a,b,rfl,rfl,?_⟩
  simp only[zCG]at h
  cases hq:zM5 k a b with
  | none=>simp[hq]at h
  | some q=>simpa [hq] using h
theorem zM6 {P:Program}{T:TypeId}(ha:zL7 P T=false){xs:Array Value}{a:Value}(h:xs.toList=[a]):zPg P T xs=a:=by
 obtain⟨l⟩:=xs
 simp only at h
 subst h
 simp[zPg,ha]
theorem zWx {P:Program}:∀ (d D:Nat),d<=D->zXC P d D
 | 0,_,_=>λT ks xs ys r hf=>by simp[zOq]at hf
 | d+1,0,hle=>by omega
 | d+1,D+1,hle=>λT ks xs ys r hf h w=>by
  have ih:=zWx (P:=P) d D (by omega)
  unfold zOq at hf
  split at hf
  ·rename_i k hu
   have ha:zL7 P T=false:=by simp[zL7,hu]
   cases hf
   obtain⟨a,b,hx,hy,he⟩:=zZ5 h
   rw[zM6 ha hx,zM6 ha hy]
   cases a<;>cases b<;>simp only[zM5,reduceCtorEq]at he
   split at he
   ·rename_i hk
    subst hk
    simp only[zAk]at he
    subst he
    exact run_equalIn_int w D T _ k _ _ hu
   ·cases he
  ·rename_i hu
   have ha:zL7 P T=false:=by simp[zL7,hu]
   cases hf
   obtain⟨a,b,hx,hy,he⟩:=zZ5 h
   rw[zM6 ha hx,zM6 ha hy]
   cases a<;>cases b<;>simp only[zM5,reduceCtorEq,zAk]at he
   subst he
   exact run_equalIn_bool' w D T _ _ hu
  ·rename_i hu
   have ha:zL7 P T=false:=by simp[zL7,hu]
   cases hf
   obtain⟨a,b,hx,hy,he⟩:=zZ5 h
   rw[zM6 ha hx,zM6 ha hy]
   cases a<;>cases b<;>simp only[zM5,reduceCtorEq,zAk]at he
   subst he
   exact run_equalIn_string w D T _ _ hu
  ·rename_i fs hu
   have ha:zL7 P T=true:=by simp[zL7,hu]
   split at hf
   ·cases hf
   ·rename_i hst
    simp only[zPg,ha,if_true]
    have hfo:P.fieldsOf T=fs:=by simp[Program.fieldsOf,hu]
    rw[run_equalIn_struct w D T xs ys (by rw[hfo];exact hu) (by simpa using hst),hfo]
    exact zVf d D ih xs ys w fs.toList 0 ks r hf (by simpa using h)
  ·rename_i n e hu
   have ha:zL7 P T=true:=by simp[zL7,hu]
   split at hf
   ·rename_i k1 hk1
    split at hf
    ·rename_i hl
     cases hf
     simp only[zPg,ha,if_true]
     obtain⟨u,hue⟩:=zXB hk1
     obtain⟨i,hi⟩:=zP8 hue
     rw[zQ0 w D T e n xs ys hu hi]
     exact zXE d D ih hk1 (by simpa using hl) xs ys w n 0 r (by simpa using h)
    ·cases hf
   ·cases hf
  ·cases hf
theorem zAfy {P:Program}{w:World}{T e:TypeId}(d:Nat)(hu:P.underlying T=some (.pointer e))(hi:(P.info? e).isSome=true){x y:Value}{b:Bool}(h:eqV .ptr x y=some b):(Op.equalIn (d+1) T x y).run P w = .ok b w:=by
 cases x<;>cases y<;>simp only[eqV,reduceCtorEq]at h
 rename_i a c
 obtain⟨j,hj⟩:=zB1.1 hi
 cases a<;>cases c<;>simp[eqV]at h
 ·subst h;simp[Op.equalIn,zCx hu]
 ·subst h;simp[Op.equalIn,zCx hu]
 ·subst h;simp[Op.equalIn,zCx hu]
 ·obtain⟨h1,h2⟩:=h
  subst h1 h2
  simp[Op.equalIn,zCx hu,sizeOf,typeInfo,hj,sameAddr]
theorem zAfz {P:Program}{w:World}{T e:TypeId}(d:Nat)(hu:P.underlying T=some (.slice e)){x y:Value}{b:Bool}(h:eqV .slc x y=some b):(Op.equalIn (d+1) T x y).run P w = .ok b w:=by
 cases x<;>cases y<;>simp only[eqV,reduceCtorEq]at h
 rename_i a _ _ c _ _
 cases a<;>cases c<;>simp[eqV]at h<;>subst h<;>simp[Op.equalIn,zCx hu]
theorem zAfA {P:Program}{w:World}{T:TypeId}{p r:Array TypeId}{va:Bool}(d:Nat)(hu:P.underlying T=some (.func p r va)){x y:Value}{b:Bool}(h:eqV .fn x y=some b):(Op.equalIn (d+1) T x y).run P w = .ok b w:=by
 cases x<;>cases y<;>simp[eqV]at h<;>subst h<;>simp[Op.equalIn,zCx hu]
theorem zAei {P:Program}{w:World}{T:TypeId}{q:EqK}{x y:Value}{r:Bool}(h:eqV q x y=some r)(he:(Op.equal T x y).run P w = .ok r w) :
  (binOp .eql T x y).run P w = .ok (.bool r) w/\(binOp .neq T x y).run P w = .ok (.bool (!r)) w:=by
 cases x<;>cases y<;>first
  | (exfalso;revert h;cases q<;>simp[eqV];done)
  | (unfold binOp;simp only[Sem.run_bind,he,Result.andThen_ok,Sem.run_pure,and_self])
theorem zAhn {P:Program}{w:World}{T:TypeId}{x y:Value}{b:Bool}(h:eqV (eqK P T) x y=some b):(Op.equal T x y).run P w = .ok b w:=by
 unfold eqK at h
 split at h
 ·rename_i hu
  cases x<;>cases y<;>simp only[eqV,reduceCtorEq,zAk]at h
  subst h
  exact run_equalIn_bool' w 9999 T _ _ hu
 ·rename_i e hu
  split at h
  ·rename_i hi;exact zAfy 9999 hu hi h
  ·simp[eqV]at h
 ·rename_i e hu
  exact zAfz 9999 hu h
 ·rename_i hu
  exact zAfA 9999 hu h
 ·rename_i fs hu
  split at h
  ·simp[eqV]at h
  ·split at h
   ·rename_i ks hk
    cases x<;>cases y<;>simp only[eqV,reduceCtorEq]at h
    rename_i xs ys
    have:=zWx (P:=P) 9 10000 (by omega) T ks xs ys b hk h w
    simpa [zPg,zL7,hu,Op.equal,Op.maxDepth] using this
   ·simp[eqV]at h
 ·rename_i n e hu
  split at h
  ·simp[eqV]at h
  ·split at h
   ·rename_i ks hk
    cases x<;>cases y<;>simp only[eqV,reduceCtorEq]at h
    rename_i xs ys
    have:=zWx (P:=P) 9 10000 (by omega) T ks xs ys b hk h w
    simpa [zPg,zL7,hu,Op.equal,Op.maxDepth] using this
   ·simp[eqV]at h
 ·cases x<;>cases y<;>simp[eqV]at h
theorem zAcC {P:Program}{T:TypeId}:∀ f lit,eqK P T ≠ .ifc f lit:=by
 intro f lit
 unfold eqK
 split<;>first
  | (intro h;cases h;done)
  | (split<;>first
    | (intro h;cases h;done)
    | (split<;>(intro h;cases h)))
theorem zVg {P:Program}{w:World}{op:BinOp}{T:TypeId}{x y:Operand}{a b:Value}{r:Bool}(h:eqV (eqQ P T x y) a b=some r):(eqGuard op T x y a b).run P w = .ok () w:=by
 by_cases hag:∃ xs ys,a = .agg xs/\b = .agg ys
 ·obtain⟨xs,ys,rfl,rfl⟩:=hag
  refine run_eqGuard_agg w op T x y xs ys ?_
  cases hg:P.eqGuardType P.depth T with
  | false=>rfl
  | true =>
   exfalso
   unfold eqQ at h
   split at h
   ·simp[eqV]at h
   ·unfold eqK at h
    simp only[hg,if_true]at h
    split at h<;>first
     | (simp[eqV]at h;done)
     | (split at h<;>simp[eqV]at h)
 ·by_cases hni:a = .nilIface/\b = .nilIface
  ·obtain⟨rfl,rfl⟩:=hni
   have hl:isC x=true\/isC y=true:=by
    unfold eqQ at h
    split at h
    ·simp only[eqV]at h
     cases hx:isC x<;>cases hy:isC y<;>simp[hx,hy]at h ⊢
    ·exfalso
     revert h
     have hn:=zAcC (P:=P) (T:=T)
     revert hn
     generalize eqK P T=q
     cases q<;>simp[eqV]
   unfold eqGuard
   cases op<;>simp only[zAe,zAd,zAb,if_true,if_false,Sem.run_pure]<;>first
    | rfl
    | (cases x<;>cases y<;>simp[isC]at hl<;>rfl)
  ·unfold eqGuard
   cases op<;>simp only[zAe,zAd,zAb,if_true,if_false,Sem.run_pure]<;>first
    | rfl
    | (cases a<;>cases b<;>first
      | (exact absurd ⟨_,_,rfl,rfl⟩ hag)
      | (exact absurd ⟨rfl,rfl⟩ hni)
      | rfl)
theorem zAho {f:TypeId->Bool}{lit:Bool}{tx ty:TypeId}{vx vy:Value}{b:Bool}(h:eqV (.ifc f lit) (.iface tx vx) (.iface ty vy)=some b) :
  (tx≠ty/\b=false)\/(tx=ty/\f tx=true/\∃ k a c,vx = .int k a/\vy = .int k c/\b=(a == c)):=by
 have hne:Nat.beq tx ty=false->tx≠ty:=λh e=>by subst e;rw[zBV]at h;cases h
 have other:(bif Nat.beq tx ty then none else some false)=some b->tx≠ty/\b=false:=by
  intro h
  cases hb:Nat.beq tx ty with
  | true=>rw[hb]at h;cases h
  | false=>rw[hb]at h;cases h;exact⟨hne hb,rfl⟩
 cases vx<;>first
  | (left;cases vy<;>exact other h)
  | (cases vy<;>first
    | (left;exact other h)
    | skip)
 rename_i k a k' c
 change (bif Nat.beq tx ty then (bif f tx then (if k=k' then some (a == c) else none) else none) else some false)=some b at h
 cases hb:Nat.beq tx ty with
 | false=>rw[hb]at h;cases h;exact .inl ⟨hne hb,rfl⟩
 | true =>
  rw[hb]at h
  cases hf:f tx with
  | false=>rw[hf]at h;cases h
  | true =>
   rw[hf]at h
   by_cases hk:k=k'
   ·subst hk
    simp only[cond_true,if_true,zAk]at h
    exact .inr ⟨zA2 hb,rfl,k,a,c,rfl,rfl,h.symm⟩
   ·simp[hk]at h
theorem zZ6 {P:Program}{T:TypeId}(h:zUf P T=true):∃ k i,P.underlying T=some (.int k)/\P.info? T=some i/\i.comparable=true:=by
 unfold zUf at h
 split at h
 ·rename_i k hk
  split at h
  ·rename_i i hi;exact⟨k,i,hk,hi,h⟩
  ·cases h
 ·cases h
set_option maxHeartbeats 2000000 in
theorem zAcD {P:Program}(w:World)(d:Nat){T tx:TypeId}{ms:Array (String×TypeId)}{k' k:IntKind}{i:TypeInfo}{a c:Int}(hu:P.underlying T=some (.interface ms))(h1:P.underlying tx=some (.int k'))(h2:P.info? tx=some i)(h3:i.comparable=true) :
  (Op.equalIn (d+2) T (.iface tx (.int k a)) (.iface tx (.int k c))).run P w = .ok (a == c) w:=by
 have e:=run_equalIn_int w d tx k k' a c h1
 rw[Op.equalIn]
 simp only[Sem.run_bind,zCx hu,Result.andThen_ok,ne_eq,not_true_eq_false,if_false,typeInfo,h2,h3]
 simp[h2,h3,e]
theorem zAfB {P:Program}{w:World}{T:TypeId}{ms:Array (String×TypeId)}{lit:Bool}(d:Nat)(hu:P.underlying T=some (.interface ms)){x y:Value}{b:Bool}(h:eqV (.ifc (zUf P) lit) x y=some b):(Op.equalIn (d+2) T x y).run P w = .ok b w:=by
 by_cases hx:x = .nilIface
 ·subst hx
  by_cases hy:y = .nilIface
  ·subst hy
   change (bif lit then some true else none)=some b at h
   cases lit with
   | false=>cases h
   | true=>cases h;simp[Op.equalIn,zCx hu]
  ·cases y<;>first
    | (exact absurd rfl hy)
    | (cases h;done)
    | skip
   cases h;simp[Op.equalIn,zCx hu]
 ·by_cases hi:∃ tx vx,x = .iface tx vx
  ·obtain⟨tx,vx,rfl⟩:=hi
   cases y<;>first
    | (cases h;done)
    | skip
   case nilIface=>cases h;simp[Op.equalIn,zCx hu]
   case iface ty vy =>
    rcases zAho h with ⟨hne,rfl⟩|⟨rfl,hf,k,a,c,rfl,rfl,rfl⟩
    ·simp[Op.equalIn,zCx hu,hne]
    ·obtain⟨k',i,h1,h2,h3⟩:=zZ6 hf
     exact zAcD w d hu h1 h2 h3
  ·exfalso
   cases x<;>first
    | (exact hi ⟨_,_,rfl⟩)
    | (exact hx rfl)
    | (cases h;done)
    | (cases y<;>cases h)
theorem zZ7 {P:Program}{w:World}{T:TypeId}{x y:Operand}{a b:Value}{r:Bool}(h:eqV (eqQ P T x y) a b=some r):(Op.equal T a b).run P w = .ok r w:=by
 unfold eqQ at h
 split at h
 ·rename_i ms hu
  exact zAfB 9998 hu h
 ·exact zAhn h
theorem zAfC {P:Program}{w:World}{op:BinOp}{T:TypeId}{x y:Operand}{a b v:Value}(h:zAB (eqQ P T x y) op a b=some v) :
  (do eqGuard op T x y a b;binOp op T a b:Sem Value).run P w = .ok v w:=by
 rw[Sem.run_bind]
 unfold zAB at h
 split at h
 ·rename_i k p k' q
  have hg:(eqGuard op T x y (.int k p) (.int k' q)).run P w = .ok () w:=by
   unfold eqGuard
   cases op<;>rfl
  rw[hg,Result.andThen_ok]
  split at h
  ·rename_i hk
   subst hk
   exact zAfs h
  ·split at h
   ·exact zVe (.inl rfl) h
   ·exact zVe (.inr rfl) h
   ·cases h
 ·rename_i p q
  have hg:(eqGuard op T x y (.string p) (.string q)).run P w = .ok () w:=by
   unfold eqGuard
   cases op<;>rfl
  rw[hg,Result.andThen_ok]
  exact zAft h
 ·rename_i hni hns
  split at h
  ·cases he:eqV (eqQ P T x y) a b with
   | none=>simp[he]at h
   | some r =>
    simp only[he,zAO,zAk]at h
    subst h
    rw[zVg he,Result.andThen_ok]
    exact(zAei he (zZ7 he)).1
  ·cases he:eqV (eqQ P T x y) a b with
   | none=>simp[he]at h
   | some r =>
    simp only[he,zAO,zAk]at h
    subst h
    rw[zVg he,Result.andThen_ok]
    exact(zAei he (zZ7 he)).2
  ·cases h
end Go.X
