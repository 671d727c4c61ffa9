import Derived.Test.YticdfkoncnnmmaaGreatDoorGA
set_option linter.unusedSimpArgs false
set_option linter.unusedVariables false
namespace Go.X
theorem zQ2:∀ {ks:List Nat} {a c:List Value} {r:Bool},zCw ks a c=some r->a.length=ks.length/\c.length=ks.length
 | [],[],[],_,_=>⟨rfl,rfl⟩
 | [],[],_::_,_,h=>by simp[zCw]at h
 | [],_::_,_,_,h=>by simp[zCw]at h
 | _::_,[],_,_,h=>by simp[zCw]at h
 | _::_,_::_,[],_,h=>by simp[zCw]at h
 | k::ks,x::a,y::c,r,h=>by
  simp only[zCw]at h
  split at h
  ·rename_i h2
   have:=zQ2 h2
   simp[this]
  ·cases h
theorem zTT {a c:List Value}{r:Bool}(h:zCw [] a c=some r):r=true:=by
 cases a<;>cases c<;>simp[zCw]at h
 exact h
theorem zRx:∀ {ks js:List Nat} {a c:List Value} {r:Bool},zCw (ks++js) a c=some r ->
  ∃ x y,zCw ks (a.take ks.length) (c.take ks.length)=some x/\zCw js (a.drop ks.length) (c.drop ks.length)=some y/\r=(x&&y)
 | [],js,a,c,r,h=>⟨true,r,rfl,by simpa using h,by simp⟩
 | k::ks,js,[],c,r,h=>by cases c<;>simp[zCw]at h
 | k::ks,js,x::a,[],r,h=>by simp[zCw]at h
 | k::ks,js,x::a,y::c,r,h=>by
  simp only[zCA,zCw]at h
  cases hxy:zN1 k x y with
  | none=>simp[hxy]at h
  | some q =>
   cases hr:zCw (ks++js) a c with
   | none=>simp[hxy,hr]at h
   | some q' =>
    simp only[hxy,hr,zAn]at h
    obtain⟨u,v,hu,hv,hq'⟩:=zRx hr
    exact⟨q&&u,v,by simp[zCw,hxy,hu],by simpa using hv,by rw[<- h,hq',Bool.and_assoc]⟩
def zQy (P:Program)(T:TypeId)(xs:Array Value):Value:=if zNc P T then .agg xs else xs.getD 0 undef
theorem zVa {P:Program}{w:World}{T:TypeId}{d:TypeDesc}(hu:P.underlying T=some d){cs:Array Value}{off:Nat}(hle:off+P.cellsOf T<=cs.size)(hs:zNc P T=false->P.cellsOf T=1) :
  (part T cs off).run P w = .ok (zQy P T (cs.extract off (off+P.cellsOf T))) w:=by
 refine zTz hu ?_
 unfold zVV zQy
 cases ha:zNc P T with
 | true=>simp
 | false =>
  have:=hs ha
  have hlt:off<cs.size:=by omega
  simp only[zAb,if_false,this,Array.getD,Array.size_extract]
  rw[dif_pos (by omega),zBv hlt]
  simp
theorem zMa {cs:Array Value}{i n:Nat}:(cs.extract i (i+n)).toList=(cs.toList.drop i).take n:=by simp
theorem zZE {P:Program}{d:Nat}{T:TypeId}{ks:List Nat}(h:zPu P d T=some ks):∃ u,P.underlying T=some u:=by
 cases d with
 | zero=>simp[zPu]at h
 | succ d =>
  unfold zPu at h
  cases hu:P.underlying T with
  | none=>simp[hu]at h
  | some u=>exact⟨u,rfl⟩
theorem zAeC {P:Program}{d:Nat}{T:TypeId}{ks:List Nat}(h:zPu P d T=some ks)(ha:zNc P T=false):ks.length=1:=by
 cases d with
 | zero=>simp[zPu]at h
 | succ d =>
  unfold zPu at h
  unfold zNc at ha
  split at h<;>simp_all<;>subst h<;>rfl
def zZF (P:Program)(d D:Nat):Prop:=∀ (T:TypeId) (ks:List Nat) (xs ys:Array Value) (r:Bool),zPu P d T=some ks->zCw ks xs.toList ys.toList=some r->∀ w,(Op.equalIn D T (zQy P T xs) (zQy P T ys)).run P w = .ok r w
theorem zZG {P:Program}{d D:Nat}(ih:zZF P d D){T:TypeId}{ks js:List Nat}(hf:zPu P d T=some ks)(hl:ks.length=P.cellsOf T){xs ys:Array Value}{o:Nat}{r:Bool}
  (h:zCw (ks++js) (xs.toList.drop o) (ys.toList.drop o)=some r) (w:World):∃ x y,r=(x&&y) /\
   (part T xs o).run P w = .ok (zQy P T (xs.extract o (o+P.cellsOf T))) w/\(part T ys o).run P w = .ok (zQy P T (ys.extract o (o+P.cellsOf T))) w /\
   (Op.equalIn D T (zQy P T (xs.extract o (o+P.cellsOf T))) (zQy P T (ys.extract o (o+P.cellsOf T)))).run P w = .ok x w /\
   zCw js (xs.toList.drop (o+P.cellsOf T)) (ys.toList.drop (o+P.cellsOf T))=some y:=by
 obtain⟨u,hu⟩:=zZE hf
 obtain⟨hlx,hly⟩:=zQ2 h
 simp only[zC1,zAt,Array.length_toList,hl]at hlx hly
 obtain⟨x,y,h1,h2,rfl⟩:=zRx h
 rw[hl]at h1 h2
 have hs:zNc P T=false->P.cellsOf T=1:=λha=>by rw[<- hl];exact zAeC hf ha
 rcases Nat.eq_zero_or_pos (P.cellsOf T) with hz|hz
 ·have ha:zNc P T=true:=by
   cases ha:zNc P T with
   | true=>rfl
   | false=>have:=hs ha;omega
  have p:∀ cs:Array Value,(part T cs o).run P w = .ok (zQy P T (cs.extract o (o+P.cellsOf T))) w:=λcs=>by
   refine zTz hu ?_
   simp[zVV,zQy,ha]
  exact⟨x,y,rfl,p xs,p ys,ih T ks _ _ x hf (by rw[zMa,zMa];exact h1) w,by simpa [zCy] using h2⟩
 ·exact⟨x,y,rfl,zVa hu (by omega) hs,zVa hu (by omega) hs,ih T ks _ _ x hf (by rw[zMa,zMa];exact h1) w,by simpa [zCy] using h2⟩
theorem zW7 {P:Program}(d D:Nat)(ih:zZF P d D)(xs ys:Array Value)(w:World):∀ (fs:List Field) (o:Nat) (ks:List Nat) (r:Bool),zSs P (zPu P d) o fs=some ks ->
  zCw ks (xs.toList.drop o) (ys.toList.drop o)=some r->(Op.eqFields D xs ys fs).run P w = .ok r w
 | [],o,ks,r,ht,h=>by
  simp only[zSs,zAn]at ht
  subst ht
  cases zTT h
  rfl
 | f::fs,o,ks,r,ht,h=>by
  simp only[zSs]at ht
  split at ht
  ·rename_i hc
   simp only[zAk,beq_iff_eq,bne_iff_ne,ne_eq]at hc
   obtain⟨rfl,hn⟩:=hc
   split at ht
   ·rename_i k1 hk1
    split at ht
    ·rename_i hl
     cases hr:zSs P (zPu P d) (f.offset+P.cellsOf f.type) fs with
     | none=>simp[hr]at ht
     | some k2 =>
      simp only[hr,zAT,zAn]at ht
      subst ht
      obtain⟨x,y,rfl,p1,p2,e1,h2⟩:=zZG ih hk1 (by simpa using hl) h w
      have e2:=zW7 d D ih xs ys w fs _ k2 y hr h2
      simp only[Op.eqFields,ne_eq,hn,not_false_eq_true,if_true,Sem.run_bind,p1,p2,Result.andThen_ok,e1,Sem.run_ite]
      cases x with
      | false=>simp
      | true=>simpa using e2
    ·cases ht
   ·cases ht
  ·cases ht
def zSt (d:Nat)(e n:Nat)(xs ys:Array Value):List Nat->Sem Bool
 | []=>pure true
 | i::is=>do
  let a <- part e xs (i*n)
  let b <- part e ys (i*n)
  let r <- Op.equalIn d e a b
  if (!r)=true then pure false else zSt d e n xs ys is
theorem zSu {P:Program}(w:World)(d:Nat)(t e n:Nat){i:TypeInfo}(xs ys:Array Value)(ht:P.underlying t=some (.array n e))(hi:P.info? e=some i) :
  (Op.equalIn (d+1) t (.agg xs) (.agg ys)).run P w=(zSt d e (P.cellsOf e) xs ys (List.range' 0 n)).run P w:=by
 simp only[Op.equalIn,Sem.run_bind,run_underlying ht,Result.andThen_ok,zEn hi]
 rw[Std.Legacy.Range.forIn_eq_forIn_range']
 simp only[Std.Legacy.Range.size,Nat.sub_zero,Nat.add_sub_cancel,Nat.div_one]
 generalize List.range' 0 n 1=l
 clear ht
 induction l generalizing w with
 | nil=>simp[zSt]
 | cons f fs ih =>
  simp only[List.forIn_cons,zSt,Sem.run_bind]
  generalize (part e xs (f*P.cellsOf e)).run P w=r1
  cases r1 with
  | ok a w1 =>
   simp only[Result.andThen_ok]
   generalize (part e ys (f*P.cellsOf e)).run P w1=r2
   cases r2 with
   | ok b w2 =>
    simp only[Result.andThen_ok]
    generalize (Op.equalIn d e a b).run P w2=r3
    cases r3 with
    | ok r w3 =>
     cases r
     ·simp[Result.andThen_ok,Sem.run_ite]
     ·simp only[Result.andThen_ok,zAg,zAb,if_false,Sem.run_pure,Sem.run_ite]
      exact ih w3
    | halt x w3=>simp[Result.andThen]
   | halt x w2=>simp[Result.andThen]
  | halt x w1=>simp[Result.andThen]
theorem zZH {P:Program}(d D:Nat)(ih:zZF P d D){e:TypeId}{ks:List Nat}(hf:zPu P d e=some ks)(hl:ks.length=P.cellsOf e)(xs ys:Array Value)(w:World):∀ (n i:Nat) (r:Bool),
  zCw (List.replicate n ks).flatten (xs.toList.drop (i*P.cellsOf e)) (ys.toList.drop (i*P.cellsOf e))=some r ->
  (zSt D e (P.cellsOf e) xs ys (List.range' i n)).run P w = .ok r w
 | 0,i,r,h=>by
  simp only[List.replicate_zero,zCp]at h
  cases zTT h
  rfl
 | n+1,i,r,h=>by
  rw[List.replicate_succ,zA5]at h
  obtain⟨x,y,rfl,p1,p2,e1,h2⟩:=zZG ih hf hl h w
  have e2:=zZH d D ih hf hl xs ys w n (i+1) y (by rw[Nat.add_mul,Nat.one_mul];exact h2)
  simp only[List.range'_succ,zSt,Sem.run_bind,p1,p2,Result.andThen_ok,e1,Sem.run_ite]
  cases x with
  | false=>simp
  | true=>simpa using e2
theorem zAb6 {k:Nat}{l m:List Value}{r:Bool}(h:zCw [k] l m=some r):∃ a b,l=[a]/\m=[b]/\zN1 k a b=some r:=by
 obtain⟨h1,h2⟩:=zQ2 h
 match l,m,h1,h2 with
 | [a],[b],_,_ =>
  refine⟨a,b,rfl,rfl,?_⟩
  simp only[zCw]at h
  cases hq:zN1 k a b with
  | none=>simp[hq]at h
  | some q=>simpa [hq] using h
theorem zN2 {P:Program}{T:TypeId}(ha:zNc P T=false){xs:Array Value}{a:Value}(h:xs.toList=[a]):zQy P T xs=a:=by
 obtain⟨l⟩:=xs
 simp only at h
 subst h
 simp[zQy,ha]
theorem zYw {P:Program}:∀ (d D:Nat),d<=D->zZF P d D
 | 0,_,_=>λT ks xs ys r hf=>by simp[zPu]at hf
 | d+1,0,hle=>by omega
 | d+1,D+1,hle=>λT ks xs ys r hf h w=>by
  have ih:=zYw (P:=P) d D (by omega)
  unfold zPu at hf
  split at hf
  ·rename_i k hu
   have ha:zNc P T=false:=by simp[zNc,hu]
   cases hf
   obtain⟨a,b,hx,hy,he⟩:=zAb6 h
   rw[zN2 ha hx,zN2 ha hy]
   cases a<;>cases b<;>simp only[zN1,reduceCtorEq]at he
   split at he
   ·rename_i hk
    subst hk
    simp only[zAn]at he
    subst he
    exact run_equalIn_int w D T _ k _ _ hu
   ·cases he
  ·rename_i hu
   have ha:zNc P T=false:=by simp[zNc,hu]
   cases hf
   obtain⟨a,b,hx,hy,he⟩:=zAb6 h
   rw[zN2 ha hx,zN2 ha hy]
   cases a<;>cases b<;>simp only[zN1,reduceCtorEq,zAn]at he
   subst he
   exact run_equalIn_bool' w D T _ _ hu
  ·rename_i hu
   have ha:zNc P T=false:=by simp[zNc,hu]
   cases hf
   obtain⟨a,b,hx,hy,he⟩:=zAb6 h
   rw[zN2 ha hx,zN2 ha hy]
   cases a<;>cases b<;>simp only[zN1,reduceCtorEq,zAn]at he
   subst he
   exact run_equalIn_string w D T _ _ hu
  ·rename_i fs hu
   have ha:zNc P T=true:=by simp[zNc,hu]
   split at hf
   ·cases hf
   ·rename_i hst
    simp only[zQy,ha,if_true]
    have hfo:P.fieldsOf T=fs:=by simp[Program.fieldsOf,hu]
    rw[run_equalIn_struct w D T xs ys (by rw[hfo];exact hu) (by simpa using hst),hfo]
    exact zW7 d D ih xs ys w fs.toList 0 ks r hf (by simpa using h)
  ·rename_i n e hu
   have ha:zNc P T=true:=by simp[zNc,hu]
   split at hf
   ·rename_i k1 hk1
    split at hf
    ·rename_i hl
     cases hf
     simp only[zQy,ha,if_true]
     obtain⟨u,hue⟩:=zZE hk1
     obtain⟨i,hi⟩:=zRu hue
     rw[zSu w D T e n xs ys hu hi]
     exact zZH d D ih hk1 (by simpa using hl) xs ys w n 0 r (by simpa using h)
    ·cases hf
   ·cases hf
  ·cases hf
theorem zAhK {P:Program}{w:World}{T e:TypeId}(d:Nat)(hu:P.underlying T=some (.pointer e))(hi:(P.info? e).isSome=true){x y:Value}{b:Bool}(h:eqV .ptr x y=some b):(Op.equalIn (d+1) T x y).run P w = .ok b w:=by
 cases x<;>cases y<;>simp only[eqV,reduceCtorEq]at h
 rename_i a c
 obtain⟨j,hj⟩:=zCb.1 hi
 cases a<;>cases c<;>simp[eqV]at h
 ·subst h;simp[Op.equalIn,zCI hu]
 ·subst h;simp[Op.equalIn,zCI hu]
 ·subst h;simp[Op.equalIn,zCI hu]
 ·obtain⟨h1,h2⟩:=h
  subst h1 h2
  simp[Op.equalIn,zCI hu,sizeOf,typeInfo,hj,sameAddr]
theorem zAhL {P:Program}{w:World}{T e:TypeId}(d:Nat)(hu:P.underlying T=some (.slice e)){x y:Value}{b:Bool}(h:eqV .slc x y=some b):(Op.equalIn (d+1) T x y).run P w = .ok b w:=by
 cases x<;>cases y<;>simp only[eqV,reduceCtorEq]at h
 rename_i a _ _ c _ _
 cases a<;>cases c<;>simp[eqV]at h<;>subst h<;>simp[Op.equalIn,zCI hu]
theorem zAhM {P:Program}{w:World}{T:TypeId}{p r:Array TypeId}{va:Bool}(d:Nat)(hu:P.underlying T=some (.func p r va)){x y:Value}{b:Bool}(h:eqV .fn x y=some b):(Op.equalIn (d+1) T x y).run P w = .ok b w:=by
 cases x<;>cases y<;>simp[eqV]at h<;>subst h<;>simp[Op.equalIn,zCI hu]
theorem zAgt {P:Program}{w:World}{T:TypeId}{q:EqK}{x y:Value}{r:Bool}(h:eqV q x y=some r)(he:(Op.equal T x y).run P w = .ok r w) :
  (binOp .eql T x y).run P w = .ok (.bool r) w/\(binOp .neq T x y).run P w = .ok (.bool (!r)) w:=by
 cases x<;>cases y<;>first
  | (exfalso;revert h;cases q<;>simp[eqV];done)
  | (unfold binOp;simp only[Sem.run_bind,he,Result.andThen_ok,Sem.run_pure,and_self])
theorem zAjE {P:Program}{w:World}{T:TypeId}{x y:Value}{b:Bool}(h:eqV (eqK P T) x y=some b):(Op.equal T x y).run P w = .ok b w:=by
 unfold eqK at h
 split at h
 ·rename_i hu
  cases x<;>cases y<;>simp only[eqV,reduceCtorEq,zAn]at h
  subst h
  exact run_equalIn_bool' w 9999 T _ _ hu
 ·rename_i e hu
  split at h
  ·rename_i hi;exact zAhK 9999 hu hi h
  ·simp[eqV]at h
 ·rename_i e hu
  exact zAhL 9999 hu h
 ·rename_i hu
  exact zAhM 9999 hu h
 ·rename_i fs hu
  split at h
  ·simp[eqV]at h
  ·split at h
   ·rename_i ks hk
    cases x<;>cases y<;>simp only[eqV,reduceCtorEq]at h
    rename_i xs ys
    have:=zYw (P:=P) 9 10000 (by omega) T ks xs ys b hk h w
    simpa [zQy,zNc,hu,Op.equal,Op.maxDepth] using this
   ·simp[eqV]at h
 ·rename_i n e hu
  split at h
  ·simp[eqV]at h
  ·split at h
   ·rename_i ks hk
    cases x<;>cases y<;>simp only[eqV,reduceCtorEq]at h
    rename_i xs ys
    have:=zYw (P:=P) 9 10000 (by omega) T ks xs ys b hk h w
    simpa [zQy,zNc,hu,Op.equal,Op.maxDepth] using this
   ·simp[eqV]at h
 ·cases x<;>cases y<;>simp[eqV]at h
theorem zAeD {P:Program}{T:TypeId}:∀ f lit,eqK P T ≠ .ifc f lit:=by
 intro f lit
 unfold eqK
 split<;>first
  | (intro h;cases h;done)
  | (split<;>first
    | (intro h;cases h;done)
    | (split<;>(intro h;cases h)))
theorem zW8 {P:Program}{w:World}{op:BinOp}{T:TypeId}{x y:Operand}{a b:Value}{r:Bool}(h:eqV (eqQ P T x y) a b=some r):(eqGuard op T x y a b).run P w = .ok () w:=by
 by_cases hag:∃ xs ys,a = .agg xs/\b = .agg ys
 ·obtain⟨xs,ys,rfl,rfl⟩:=hag
  refine run_eqGuard_agg w op T x y xs ys ?_
  cases hg:P.eqGuardType P.depth T with
  | false=>rfl
  | true =>
   exfalso
   unfold eqQ at h
   split at h
   ·simp[eqV]at h
   ·unfold eqK at h
    simp only[hg,if_true]at h
    split at h<;>first
     | (simp[eqV]at h;done)
     | (split at h<;>simp[eqV]at h)
 ·by_cases hni:a = .nilIface/\b = .nilIface
  ·obtain⟨rfl,rfl⟩:=hni
   have hl:isC x=true\/isC y=true:=by
    unfold eqQ at h
    split at h
    ·simp only[eqV]at h
     cases hx:isC x<;>cases hy:isC y<;>simp[hx,hy]at h ⊢
    ·exfalso
     revert h
     have hn:=zAeD (P:=P) (T:=T)
     revert hn
     generalize eqK P T=q
     cases q<;>simp[eqV]
   unfold eqGuard
   cases op<;>simp only[zAg,zAf,zAb,if_true,if_false,Sem.run_pure]<;>first
    | rfl
    | (cases x<;>cases y<;>simp[isC]at hl<;>rfl)
  ·unfold eqGuard
   cases op<;>simp only[zAg,zAf,zAb,if_true,if_false,Sem.run_pure]<;>first
    | rfl
    | (cases a<;>cases b<;>first
      | (exact absurd ⟨_,_,rfl,rfl⟩ hag)
      | (exact absurd ⟨rfl,rfl⟩ hni)
      | rfl)
theorem zAjF {f:TypeId->Bool}{lit:Bool}{tx ty:TypeId}{vx vy:Value}{b:Bool}(h:eqV (.ifc f lit) (.iface tx vx) (.iface ty vy)=some b) :
  (tx≠ty/\b=false)\/(tx=ty/\f tx=true/\∃ k a c,vx = .int k a/\vy = .int k c/\b=(a == c)):=by
 have hne:Nat.beq tx ty=false->tx≠ty:=λh e=>by subst e;rw[zB1]at h;cases h
 have other:(bif Nat.beq tx ty then none else some false)=some b->tx≠ty/\b=false:=by
  intro h
  cases hb:Nat.beq tx ty with
  | true=>rw[hb]at h;cases h
  | false=>rw[hb]at h;cases h;exact⟨hne hb,rfl⟩
 cases vx<;>first
  | (left;cases vy<;>exact other h)
  | (cases vy<;>first
    | (left;exact other h)
    | skip)
 rename_i k a k' c
 change (bif Nat.beq tx ty then (bif f tx then (if k=k' then some (a == c) else none) else none) else some false)=some b at h
 cases hb:Nat.beq tx ty with
 | false=>rw[hb]at h;cases h;exact .inl ⟨hne hb,rfl⟩
 | true =>
  rw[hb]at h
  cases hf:f tx with
  | false=>rw[hf]at h;cases h
  | true =>
   rw[hf]at h
   by_cases hk:k=k'
   ·subst hk
    simp only[cond_true,if_true,zAn]at h
    exact .inr ⟨zA3 hb,rfl,k,a,c,rfl,rfl,h.symm⟩
   ·simp[hk]at h
theorem zAb7 {P:Program}{T:TypeId}(h:zVW P T=true):∃ k i,P.underlying T=some (.int k)/\P.info? T=some i/\i.comparable=true:=by
 unfold zVW at h
 split at h
 ·rename_i k hk
  split at h
  ·rename_i i hi;exact⟨k,i,hk,hi,h⟩
  ·cases h
 ·cases h
set_option maxHeartbeats 2000000 in
theorem zAeE {P:Program}(w:World)(d:Nat){T tx:TypeId}{ms:Array (String×TypeId)}{k' k:IntKind}{i:TypeInfo}{a c:Int}(hu:P.underlying T=some (.interface ms))(h1:P.underlying tx=some (.int k'))(h2:P.info? tx=some i)(h3:i.comparable=true) :
  (Op.equalIn (d+2) T (.iface tx (.int k a)) (.iface tx (.int k c))).run P w = .ok (a == c) w:=by
 have e:=run_equalIn_int w d tx k k' a c h1
 rw[Op.equalIn]
 simp only[Sem.run_bind,zCI hu,Result.andThen_ok,ne_eq,not_true_eq_false,if_false,typeInfo,h2,h3]
 simp[h2,h3,e]
theorem zAhN {P:Program}{w:World}{T:TypeId}{ms:Array (String×TypeId)}{lit:Bool}(d:Nat)(hu:P.underlying T=some (.interface ms)){x y:Value}{b:Bool}(h:eqV (.ifc (zVW P) lit) x y=some b):(Op.equalIn (d+2) T x y).run P w = .ok b w:=by
 by_cases hx:x = .nilIface
 ·subst hx
  by_cases hy:y = .nilIface
  ·subst hy
   change (bif lit then some true else none)=some b at h
   cases lit with
   | false=>cases h
   | true=>cases h;simp[Op.equalIn,zCI hu]
  ·cases y<;>first
    | (exact absurd rfl hy)
    | (cases h;done)
    | skip
   cases h;simp[Op.equalIn,zCI hu]
 ·by_cases hi:∃ tx vx,x = .iface tx vx
  ·obtain⟨tx,vx,rfl⟩:=hi
   cases y<;>first
    | (cases h;done)
    | skip
   case nilIface=>cases h;simp[Op.equalIn,zCI hu]
   case iface ty vy =>
    rcases zAjF h with ⟨hne,rfl⟩|⟨rfl,hf,k,a,c,rfl,rfl,rfl⟩
    ·simp[Op.equalIn,zCI hu,hne]
    ·obtain⟨k',i,h1,h2,h3⟩:=zAb7 hf
     exact zAeE w d hu h1 h2 h3
  ·exfalso
   cases x<;>first
    | (exact hi ⟨_,_,rfl⟩)
    | (exact hx rfl)
    | (cases h;done)
    | (cases y<;>cases h)
theorem zAb8 {P:Program}{w:World}{T:TypeId}{x y:Operand}{a b:Value}{r:Bool}(h:eqV (eqQ P T x y) a b=some r):(Op.equal T a b).run P w = .ok r w:=by
 unfold eqQ at h
 split at h
 ·rename_i ms hu
  exact zAhN 9998 hu h
 ·exact zAjE h
theorem zAhO {P:Program}{w:World}{op:BinOp}{T:TypeId}{x y:Operand}{a b v:Value}(h:zAB (eqQ P T x y) op a b=some v) :
  (do eqGuard op T x y a b;binOp op T a b:Sem Value).run P w = .ok v w:=by
 rw[Sem.run_bind]
 unfold zAB at h
 split at h
 ·rename_i k p k' q
  have hg:(eqGuard op T x y (.int k p) (.int k' q)).run P w = .ok () w:=by
   unfold eqGuard
   cases op<;>rfl
  rw[hg,Result.andThen_ok]
  split at h
  ·rename_i hk
   subst hk
   exact zAhE h
  ·split at h
   ·exact zW6 (.inl rfl) h
   ·exact zW6 (.inr rfl) h
   ·cases h
 ·rename_i p q
  have hg:(eqGuard op T x y (.string p) (.string q)).run P w = .ok () w:=by
   unfold eqGuard
   cases op<;>rfl
  rw[hg,Result.andThen_ok]
  exact zAhF h
 ·rename_i hni hns
  split at h
  ·cases he:eqV (eqQ P T x y) a b with
   | none=>simp[he]at h
   | some r =>
    simp only[he,zAT,zAn]at h
    subst h
    rw[zW8 he,Result.andThen_ok]
    exact(zAgt he (zAb8 he)).1
  ·cases he:eqV (eqQ P T x y) a b with
   | none=>simp[he]at h
   | some r =>
    simp only[he,zAT,zAn]at h
    subst h
    rw[zW8 he,Result.andThen_ok]
    exact(zAgt he (zAb8 he)).2
  ·cases h
end Go.X
