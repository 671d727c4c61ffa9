import Derived.Test.YticdfkoncnnmmaaGreatDoorGD
set_option linter.unusedSimpArgs false
set_option linter.unusedVariables false
namespace Go.X
universe u
def nfl {α:Sort u}:List Nat->(List Nat->α)->α
 | [],k=>k []
 | a::l,k=>nfl l λl'=>k (a::l')
theorem zNZ {α:Sort u}:∀ {l:List Nat} {k:List Nat->α},nfl l k=k l
 | [],_=>rfl
 | a::l,k=>by rw[nfl,zNZ]
def nfo {α:Sort u}:Option (List Nat)->(Option (List Nat)->α)->α
 | none,k=>k none
 | some l,k=>nfl l λl'=>k (some l')
theorem zAax {α:Sort u}{o:Option (List Nat)}{k:Option (List Nat)->α}:nfo o k=k o:=by
 cases o with
 | none=>rfl
 | some l=>rw[nfo,zNZ]
def zAay (P:Program)(V:List Nat)(ops:Array Oper):Nat->List Item->Env->zAw->(Env->zAw->Prop)->Prop
 | 0,_,_,_,_=>False
 | _+1,[],e,H,K=>K e H
 | f+1,(o,rs)::rest,e,H,K=>match o.guard with
  | none=>opX P false o (ev e) H λv h=>Mre (zUm P (e.put o.dst v) h rs) (zAay P V ops f rest (e.put o.dst v) h K)
  | some g=>match (ops[g.1]?).bind (·.dst) with
   | some t=>nfl (zHW (zEF ((o,rs)::(zHK g rest).1))) λA=>nfl (both V A V) λL =>
    zKn L.length
     (λk=>Mif (e t) g.2 (zXJ P ((o,rs)::(zHK g rest).1) e H λe' h=>Cur.app _ k (L.map e') h)
      (Cur.app _ k (L.map λ_=>undef) H))
     (Cur.of _ λvs h=>zAay P V ops f (zHK g rest).2 (mg A L e vs) h K)
   | none=>False
theorem zAcT {P:Program}{V:List Nat}{ops:Array Oper}:∀ {f:Nat} {l:List Item} {e:Env} {H:zAw} {K:Env->zAw->Prop},zAay P V ops f l e H K=zAem P V ops f l e H K:=by
 intro f
 induction f with
 | zero=>intros;rfl
 | succ f ih =>
  intro l e H K
  cases l with
  | nil=>rfl
  | cons x rest =>
   obtain⟨o,rs⟩:=x
   simp only[zAay,zAem,zNZ,ih]
   cases o.guard with
   | none=>rfl
   | some g =>
    simp only
    cases (ops[g.1]?).bind (·.dst)<;>rfl
def zSx (V:List Nat)(ops:Array Oper):Nat->List Item->List Nat->Option (List Nat)
 | 0,_,_=>none
 | _+1,[],D=>some D
 | f+1,(o,rs)::rest,D=>match o.guard with
  | none=>bif zAcI D o&&rs.all (zAcJ (addD o.dst D)) then zSx V ops f rest (addD o.dst D) else none
  | some g=>match (ops[g.1]?).bind (·.dst) with
   | some t=>nfl (zHW (zEF ((o,rs)::(zHK g rest).1))) λA=>bif has D t && !has A t then
     (match zIX ((o,rs)::(zHK g rest).1) D with
     | some _=>nfl (both V A V++rm A D) λD'=>zSx V ops f (zHK g rest).2 D'
     | none=>none) else none
   | none=>none
theorem zYX {V:List Nat}{ops:Array Oper}:∀ {f:Nat} {l:List Item} {D:List Nat},zSx V ops f l D=zQi V ops f l D:=by
 intro f
 induction f with
 | zero=>intros;rfl
 | succ f ih =>
  intro l D
  cases l with
  | nil=>rfl
  | cons x rest =>
   obtain⟨o,rs⟩:=x
   simp only[zSx,zQi,zNZ,ih]
   cases o.guard with
   | none=>rfl
   | some g =>
    simp only
    cases (ops[g.1]?).bind (·.dst) with
    | none=>rfl
    | some t =>
     simp only
     cases (has D t && !has (zHW (zEF ((o,rs)::(zHK g rest).1))) t) with
     | false=>rfl
     | true =>
      simp only[cond_true]
      cases zIX ((o,rs)::(zHK g rest).1) D<;>rfl
def nft {α:Sort u}:Tr->(Tr->α)->α
 | .done,k=>k .done
 | .stop,k=>k .stop
 | .lt i t,k=>nft t λt'=>k (.lt i t')
 | .hv i rs t m,k=>nfl rs λrs'=>nft t λt'=>nft m λm'=>k (.hv i rs' t' m')
theorem zVA {α:Sort u}:∀ {t:Tr} {k:Tr->α},nft t k=k t
 | .done,_=>rfl
 | .stop,_=>rfl
 | .lt i t,k=>by rw[nft,zVA]
 | .hv i rs t m,k=>by rw[nft,zNZ,zVA,zVA]
def zWJ (P:Program)(V:List Nat)(ops:Array Oper)(e:Env)(H:zAw)(K:Env->zAw->Prop):Prop :=
 nfl (zHW ops.toList) λA=>nfl (both V A V) λL=>nft (zUq P ops) λT =>
 zKn L.length (λk=>zVw P ops T e H λe' h=>Cur.app _ k (L.map e') h)
  (Cur.of _ λvs h=>K (mg A L e vs) h)
theorem zYY {P:Program}{V:List Nat}{ops:Array Oper}{e:Env}{H:zAw}{K:Env->zAw->Prop}:zWJ P V ops e H K=zAao P V ops e H K:=by
 simp only[zWJ,zAao,zNZ,zVA]
def zAaz (P:Program)(V:List Nat)(n:Nat)(ops:Array Oper)(D:List Nat):Option (List Nat) :=
 nfl (zHW ops.toList) λA=>nfl (both V A V) λL=>nft (zUq P ops) λT=>nfl (List.range ops.size) λR =>
 bif P.follows .mixedOrders&&zAcK n ops&&wfT P ops T R [] true&&zAcO ops L T D then some (L++rm A D) else none
theorem zAaA {P:Program}{V:List Nat}{n:Nat}{ops:Array Oper}{D:List Nat}:zAaz P V n ops D=zAcP P V n ops D:=by
 simp only[zAaz,zAcP,zNZ,zVA]
def zTI (P:Program)(V R:List Nat)(n:Nat):Code->List Nat->Option Inf
 | .rangeFunc g ps as b,D=>bif zWB D g&&ps.toList.all (λp=>Nat.ble (p+1) n)&&(!zMk b || zAaq R D) then (match zTI P V R n as (ps.toList++D) with
  | some ⟨some Da,_⟩=>(match zTI P V R n b Da with
   | some ⟨_,E⟩=>some ⟨some D,E.map λp=>(p.1,D)⟩
   | none=>none)
  | _=>none) else none
 | .skip,D=>some ⟨some D,[]⟩
 | .label _,D=>some ⟨some D,[]⟩
 | .scope a,D=>zTI P V R n a D
 | .region _ ops draw,D=>bif draw && !zAg9 P ops then nfo (zAaz P V n ops D) λd=>d.map λD'=>⟨some D',[]⟩ else bif (bif draw then zAaf P n ops (zAcL P ops) else ops.toList.all (zWt n)) then
   nfo (zSx V ops (ops.size+1) (zRz P ops draw) D) λd=>d.map λD'=>⟨some D',[]⟩ else none
 | .seq a b,D=>match zTI P V R n a D with
  | some ⟨some Da,E⟩=>nfl (bif zYU a then both V (asg a) Da++rm (asg a) D else Da) λD1=>match zTI P V R n b D1 with
   | some ⟨nb,E2⟩=>some ⟨nb,E++E2⟩
   | none=>none
  | some ⟨none,E⟩=>some ⟨none,E⟩
  | none=>none
 | .cond c a b,D=>bif zWB D c then (match zTI P V R n a D,zTI P V R n b D with
  | some ⟨na,Ea⟩,some ⟨nb,Eb⟩=>nfo (zSv (na.toList++nb.toList)) λm=>some ⟨m,Ea++Eb⟩
  | _,_=>none) else none
 | .block id a,D=>match zTI P V R n a D with
  | some ⟨na,E⟩=>nfo (zSv (na.toList++exD id E)) λm=>some ⟨m,zAha id E⟩
  | none=>none
 | .loop a,D=>nfl (both V (asg a) D) λL=>nfl (L++rm (asg a) D) λD1=>match zTI P V R n a D1 with
  | some ⟨na,E⟩=>bif (match na with|some d=>zAaq L d|none=>true) then some ⟨none,E⟩ else none
  | none=>none
 | .exit id,D=>some ⟨none,[(id,D)]⟩
 | .ret,D=>bif zAaq R D then some ⟨none,[]⟩ else none
 | _,_=>some ⟨none,[]⟩
theorem zWK {P:Program}{V R:List Nat}{n:Nat}(c:Code):∀ {D:List Nat},zTI P V R n c D=chk P V R n c D:=by
 induction c with
 | region l ops draw =>
  intro D
  simp only[zTI,chk,zOw,zAax,zYX,zAaA]
  cases (draw && !zAg9 P ops)
  rotate_left
  ·rfl
  simp only[cond_false]
  cases (bif draw then zAaf P n ops (zAcL P ops) else ops.toList.all (zWt n))<;>rfl
 | seq a b iha ihb=>intro D;simp only[zTI,chk,zNZ,iha,ihb];rfl
 | cond c a b iha ihb=>intro D;simp only[zTI,chk,zAax,iha,ihb];rfl
 | block id a iha=>intro D;simp only[zTI,chk,zAax,iha];rfl
 | scope a iha=>intro D;simp only[zTI,chk,iha]
 | loop a iha=>intro D;simp only[zTI,chk,zNZ,iha];rfl
 | rangeFunc g ps as b iha ihb=>intro D;simp only[zTI,chk,iha,ihb];rfl
 | _=>intros;rfl
def zAht (P:Program)(V R:List Nat)(n:Nat)(a:Code)(D:List Nat):List Nat:=match zTI P V R n a D with
 | some ⟨some d,_⟩=>d
 | _=>[]
theorem zAaB {P:Program}{V R:List Nat}{n:Nat}{a:Code}{D:List Nat}:zAht P V R n a D=zQ4 P V R n a D:=by
 simp only[zAht,zQ4,zWK];rfl
def zTg (P:Program)(V R:List Nat)(n n0:Nat):Bool->Code->List Nat->Env->zAw->(Exit->Env->zAw->Prop)->Prop
 | M,.rangeFunc g ps as b,D,e,H,Q=>bif M then nfl (ps.toList++D) λD0=>nfl (zAht P V R n as D0) λD1=>nfl (zAas (zTI P V R n b D1)) λids =>
   zRB P n0 (ev e g) H (λargs h k=>args.length=ps.size/\zTg P V R n n0 false as D0 (zWG ps.toList 0 args e) h
     (zAkm λe' h'=>zAhb (H.size+1) h' λh''=>zTg P V R n n0 false b D1 e' h'' (zAep k)))
    (zWF (zMk b) Q e ids)
  else False
 | _,.skip,_,e,H,Q=>Q .normal e H
 | _,.label _,_,e,H,Q=>Q .normal e H
 | M,.scope a,D,e,H,Q=>zTg P V R n n0 M a D e H Q
 | _,.region _ ops draw,_,e,H,Q=>bif draw && !zAg9 P ops then zWJ P V ops e H λe h=>Q .normal e h else zAay P V ops (ops.size+1) (zRz P ops draw) e H λe h=>Q .normal e h
 | M,.seq a b,D,e,H,Q=>bif zYU a then nfl (zAht P V R n a D) λD1=>nfl (both V (asg a) D1) λL=>nfl (L++rm (asg a) D) λD2 =>
   zKn L.length
    (λk=>zTg P V R n n0 M a D e H (zVx (λe' h'=>Cur.app _ k (L.map e') h') Q))
    (Cur.of _ λvs h'=>zTg P V R n n0 M b D2 (mg [] L e vs) h' Q)
  else nfl (zAht P V R n a D) λD1=>zTg P V R n n0 M a D e H (zVx (λe' h'=>zTg P V R n n0 M b D1 e' h' Q) Q)
 | M,.cond c a b,D,e,H,Q=>Mcd (ev e c) (zTg P V R n n0 M a D e H Q) (zTg P V R n n0 M b D e H Q)
 | M,.block id a,D,e,H,Q=>zTg P V R n n0 M a D e H (zXO id Q)
 | M,.loop a,D,e,H,Q=>nfl (both V (asg a) D) λL=>nfl (L++rm (asg a) D) λD1=>zUl L.length
   (λnext=>Cur.of _ λvs h'=>zTg P V R n n0 M a D1 (mg [] L e vs) h'
    (zVx (λe'' h''=>Cur.app _ next (L.map e'') h'') Q)) (L.map e) H
 | _,.exit id,_,e,H,Q=>Q (.exit id) e H
 | _,.ret,_,e,H,Q=>Q .ret e H
 | _,_,_,_,_,_=>False
theorem zAfO {P:Program}{V R:List Nat}{n n0:Nat}(c:Code):∀ {M:Bool} {D:List Nat} {e:Env} {H:zAw} {Q:Exit->Env->zAw->Prop},zTg P V R n n0 M c D e H Q=den P V R n n0 M c D e H Q:=by
 induction c with
 | region l ops draw=>intros;simp only[zTg,den,zUr,zAcT,zYY]
 | seq a b iha ihb=>intro M D e H Q;simp only[zTg,den,zNZ,zAaB,iha,ihb];rfl
 | loop a iha=>intro M D e H Q;simp only[zTg,den,zNZ,iha];rfl
 | rangeFunc g ps as b iha ihb=>intro M D e H Q;simp only[zTg,den,zNZ,zAaB,zWK,iha,ihb]
 | cond c a b iha ihb=>intro M D e H Q;simp only[zTg,den,iha,ihb]
 | block id a iha=>intro M D e H Q;simp only[zTg,den,iha]
 | scope a iha=>intro M D e H Q;simp only[zTg,den,iha]
 | _=>intros;simp only[zTg,den]
def zAcU (P:Program)(V:List Nat)(fn:Func)(args:List Value)(H:zAw)(R:zAn):Prop :=
 match fn.body with
 | some c=>bif zTk c then zTg P V (zGq fn.results.toList) fn.ntmps H.size true c (zZP args.length) (zAeq args) H (zAko P H.size fn R)
  else zTg P V (zGq fn.results.toList) fn.ntmps 0 false c (zZP args.length) (zAeq args) H (zAkn P fn R)
 | none=>False
def zAcV (P:Program)(V:List Nat)(fn:Func)(nargs:Nat):Bool :=
 match fn.body with
 | some c=>Nat.ble nargs fn.ntmps&&(match zTI P V (zGq fn.results.toList) fn.ntmps c (zZP nargs) with
  | some ⟨some d,_⟩=>zAaq (zGq fn.results.toList) d
  | some ⟨none,_⟩=>true
  | none=>false)
 | none=>false
theorem zAcW {P:Program}{V:List Nat}{fn:Func}{args:List Value}{H:zAw}{R:zAn}:zAcU P V fn args H R=zAi6 P V fn args H R:=by
 unfold zAcU zAi6
 cases fn.body<;>simp only[zAfO]
theorem zAcX {P:Program}{V:List Nat}{fn:Func}{n:Nat}:zAcV P V fn n=zAi7 P V fn n:=by
 unfold zAcV zAi7
 cases fn.body with
 | none=>rfl
 | some c=>simp only[zWK];rfl
theorem zAaC {P:Program}{f:FuncId}{fn:Func}{V:List Nat}{args:List Value}{H:zAw}{R:zAn}(hf:P.funcs[f]? = some fn)(hc:zAcV P V fn args.length=true)(h:zAcU P V fn args H R):zAA P f args H R :=
 zAcS hf (by rw[<- zAcX];exact hc) (by rw[<- zAcW];exact h)
theorem zAx {P:Program}{f:FuncId}{fn:Func}(V:List Nat){args:List Value}{H:zAw}{R:zAn}{X:Prop}(hf:P.funcs[f]? = some fn)(hc:zAcV P V fn args.length=true)(hd:zAcU P V fn args H R=X)(h:X):zAA P f args H R :=
 zAaC hf hc (by rw[hd];exact h)
end Go.X
