import Derived.Test.YticdfkoncnnmmaaGreatDoorGD
set_option linter.unusedSimpArgs false
set_option linter.unusedVariables false
namespace Go.X
universe u
def nfl {α:Sort u}:List Nat->(List Nat->α)->α
 | [],k=>k []
 | a::l,k=>nfl l λl'=>k (a::l')
theorem zO8 {α:Sort u}:∀ {l:List Nat} {k:List Nat->α},nfl l k=k l
 | [],_=>rfl
 | a::l,k=>by rw[nfl,zO8]
def nfo {α:Sort u}:Option (List Nat)->(Option (List Nat)->α)->α
 | none,k=>k none
 | some l,k=>nfl l λl'=>k (some l')
theorem zAcr {α:Sort u}{o:Option (List Nat)}{k:Option (List Nat)->α}:nfo o k=k o:=by
 cases o with
 | none=>rfl
 | some l=>rw[nfo,zO8]
def zAcs (P:Program)(V:List Nat)(ops:Array Oper):Nat->List Item->Env->zAw->(Env->zAw->Prop)->Prop
 | 0,_,_,_,_=>False
 | _+1,[],e,H,K=>K e H
 | f+1,(o,rs)::rest,e,H,K=>match o.guard with
  | none=>opX P false o (ev e) H λv h=>Mre (zVT P (e.put o.dst v) h rs) (zAcs P V ops f rest (e.put o.dst v) h K)
  | some g=>match (ops[g.1]?).bind (·.dst) with
   | some t=>nfl (zIE (zE3 ((o,rs)::(zIs g rest).1))) λA=>nfl (both V A V) λL =>
    zLk L.length
     (λk=>Mif (e t) g.2 (zZD P ((o,rs)::(zIs g rest).1) e H λe' h=>Cur.app _ k (L.map e') h)
      (Cur.app _ k (L.map λ_=>undef) H))
     (Cur.of _ λvs h=>zAcs P V ops f (zIs g rest).2 (mg A L e vs) h K)
   | none=>False
theorem zAeR {P:Program}{V:List Nat}{ops:Array Oper}:∀ {f:Nat} {l:List Item} {e:Env} {H:zAw} {K:Env->zAw->Prop},zAcs P V ops f l e H K=zAgk P V ops f l e H K:=by
 intro f
 induction f with
 | zero=>intros;rfl
 | succ f ih =>
  intro l e H K
  cases l with
  | nil=>rfl
  | cons x rest =>
   obtain⟨o,rs⟩:=x
   simp only[zAcs,zAgk,zO8,ih]
   cases o.guard with
   | none=>rfl
   | some g =>
    simp only
    cases (ops[g.1]?).bind (·.dst)<;>rfl
def zTU (V:List Nat)(ops:Array Oper):Nat->List Item->List Nat->Option (List Nat)
 | 0,_,_=>none
 | _+1,[],D=>some D
 | f+1,(o,rs)::rest,D=>match o.guard with
  | none=>bif zAeG D o&&rs.all (zAeH (addD o.dst D)) then zTU V ops f rest (addD o.dst D) else none
  | some g=>match (ops[g.1]?).bind (·.dst) with
   | some t=>nfl (zIE (zE3 ((o,rs)::(zIs g rest).1))) λA=>bif has D t && !has A t then
     (match zJN ((o,rs)::(zIs g rest).1) D with
     | some _=>nfl (both V A V++rm A D) λD'=>zTU V ops f (zIs g rest).2 D'
     | none=>none) else none
   | none=>none
theorem zAaV {V:List Nat}{ops:Array Oper}:∀ {f:Nat} {l:List Item} {D:List Nat},zTU V ops f l D=zRL V ops f l D:=by
 intro f
 induction f with
 | zero=>intros;rfl
 | succ f ih =>
  intro l D
  cases l with
  | nil=>rfl
  | cons x rest =>
   obtain⟨o,rs⟩:=x
   simp only[zTU,zRL,zO8,ih]
   cases o.guard with
   | none=>rfl
   | some g =>
    simp only
    cases (ops[g.1]?).bind (·.dst) with
    | none=>rfl
    | some t =>
     simp only
     cases (has D t && !has (zIE (zE3 ((o,rs)::(zIs g rest).1))) t) with
     | false=>rfl
     | true =>
      simp only[cond_true]
      cases zJN ((o,rs)::(zIs g rest).1) D<;>rfl
def nft {α:Sort u}:Tr->(Tr->α)->α
 | .done,k=>k .done
 | .stop,k=>k .stop
 | .lt i t,k=>nft t λt'=>k (.lt i t')
 | .hv i rs t m,k=>nfl rs λrs'=>nft t λt'=>nft m λm'=>k (.hv i rs' t' m')
theorem zXd {α:Sort u}:∀ {t:Tr} {k:Tr->α},nft t k=k t
 | .done,_=>rfl
 | .stop,_=>rfl
 | .lt i t,k=>by rw[nft,zXd]
 | .hv i rs t m,k=>by rw[nft,zO8,zXd,zXd]
def zYz (P:Program)(V:List Nat)(ops:Array Oper)(e:Env)(H:zAw)(K:Env->zAw->Prop):Prop :=
 nfl (zIE ops.toList) λA=>nfl (both V A V) λL=>nft (zVX P ops) λT =>
 zLk L.length (λk=>zW9 P ops T e H λe' h=>Cur.app _ k (L.map e') h)
  (Cur.of _ λvs h=>K (mg A L e vs) h)
theorem zAaW {P:Program}{V:List Nat}{ops:Array Oper}{e:Env}{H:zAw}{K:Env->zAw->Prop}:zYz P V ops e H K=zAci P V ops e H K:=by
 simp only[zYz,zAci,zO8,zXd]
def zAct (P:Program)(V:List Nat)(n:Nat)(ops:Array Oper)(D:List Nat):Option (List Nat) :=
 nfl (zIE ops.toList) λA=>nfl (both V A V) λL=>nft (zVX P ops) λT=>nfl (List.range ops.size) λR =>
 bif P.follows .mixedOrders&&zAeI n ops&&wfT P ops T R [] true&&zAeM ops L T D then some (L++rm A D) else none
theorem zAcu {P:Program}{V:List Nat}{n:Nat}{ops:Array Oper}{D:List Nat}:zAct P V n ops D=zAeN P V n ops D:=by
 simp only[zAct,zAeN,zO8,zXd]
def zVa (P:Program)(V R:List Nat)(n:Nat):Code->List Nat->Option Inf
 | .rangeFunc g ps as b,D=>bif zYr D g&&ps.toList.all (λp=>Nat.ble (p+1) n)&&(!zNx b || zAck R D) then (match zVa P V R n as (ps.toList++D) with
  | some ⟨some Da,_⟩=>(match zVa P V R n b Da with
   | some ⟨_,E⟩=>some ⟨some D,E.map λp=>(p.1,D)⟩
   | none=>none)
  | _=>none) else none
 | .skip,D=>some ⟨some D,[]⟩
 | .label _,D=>some ⟨some D,[]⟩
 | .scope a,D=>zVa P V R n a D
 | .region _ ops draw,D=>bif draw && !zAjh P ops then nfo (zAct P V n ops D) λd=>d.map λD'=>⟨some D',[]⟩ else bif (bif draw then zAb9 P n ops (zAeJ P ops) else ops.toList.all (zYh n)) then
   nfo (zTU V ops (ops.size+1) (zS3 P ops draw) D) λd=>d.map λD'=>⟨some D',[]⟩ else none
 | .seq a b,D=>match zVa P V R n a D with
  | some ⟨some Da,E⟩=>nfl (bif zAaS a then both V (asg a) Da++rm (asg a) D else Da) λD1=>match zVa P V R n b D1 with
   | some ⟨nb,E2⟩=>some ⟨nb,E++E2⟩
   | none=>none
  | some ⟨none,E⟩=>some ⟨none,E⟩
  | none=>none
 | .cond c a b,D=>bif zYr D c then (match zVa P V R n a D,zVa P V R n b D with
  | some ⟨na,Ea⟩,some ⟨nb,Eb⟩=>nfo (zTS (na.toList++nb.toList)) λm=>some ⟨m,Ea++Eb⟩
  | _,_=>none) else none
 | .block id a,D=>match zVa P V R n a D with
  | some ⟨na,E⟩=>nfo (zTS (na.toList++exD id E)) λm=>some ⟨m,zAji id E⟩
  | none=>none
 | .loop a,D=>nfl (both V (asg a) D) λL=>nfl (L++rm (asg a) D) λD1=>match zVa P V R n a D1 with
  | some ⟨na,E⟩=>bif (match na with|some d=>zAck L d|none=>true) then some ⟨none,E⟩ else none
  | none=>none
 | .exit id,D=>some ⟨none,[(id,D)]⟩
 | .ret,D=>bif zAck R D then some ⟨none,[]⟩ else none
 | _,_=>some ⟨none,[]⟩
theorem zYA {P:Program}{V R:List Nat}{n:Nat}(c:Code):∀ {D:List Nat},zVa P V R n c D=chk P V R n c D:=by
 induction c with
 | region l ops draw =>
  intro D
  simp only[zVa,chk,zPJ,zAcr,zAaV,zAcu]
  cases (draw && !zAjh P ops)
  rotate_left
  ·rfl
  simp only[cond_false]
  cases (bif draw then zAb9 P n ops (zAeJ P ops) else ops.toList.all (zYh n))<;>rfl
 | seq a b iha ihb=>intro D;simp only[zVa,chk,zO8,iha,ihb];rfl
 | cond c a b iha ihb=>intro D;simp only[zVa,chk,zAcr,iha,ihb];rfl
 | block id a iha=>intro D;simp only[zVa,chk,zAcr,iha];rfl
 | scope a iha=>intro D;simp only[zVa,chk,iha]
 | loop a iha=>intro D;simp only[zVa,chk,zO8,iha];rfl
 | rangeFunc g ps as b iha ihb=>intro D;simp only[zVa,chk,iha,ihb];rfl
 | _=>intros;rfl
def zAjA (P:Program)(V R:List Nat)(n:Nat)(a:Code)(D:List Nat):List Nat:=match zVa P V R n a D with
 | some ⟨some d,_⟩=>d
 | _=>[]
theorem zAcv {P:Program}{V R:List Nat}{n:Nat}{a:Code}{D:List Nat}:zAjA P V R n a D=zSs P V R n a D:=by
 simp only[zAjA,zSs,zYA];rfl
def zUI (P:Program)(V R:List Nat)(n n0:Nat):Bool->Code->List Nat->Env->zAw->(Exit->Env->zAw->Prop)->Prop
 | M,.rangeFunc g ps as b,D,e,H,Q=>bif M then nfl (ps.toList++D) λD0=>nfl (zAjA P V R n as D0) λD1=>nfl (zAcm (zVa P V R n b D1)) λids =>
   zS5 P n0 (ev e g) H (λargs h k=>args.length=ps.size/\zUI P V R n n0 false as D0 (zYw ps.toList 0 args e) h
     (zAmn λe' h'=>zAjj (H.size+1) h' λh''=>zUI P V R n n0 false b D1 e' h'' (zAgn k)))
    (zYv (zNx b) Q e ids)
  else False
 | _,.skip,_,e,H,Q=>Q .normal e H
 | _,.label _,_,e,H,Q=>Q .normal e H
 | M,.scope a,D,e,H,Q=>zUI P V R n n0 M a D e H Q
 | _,.region _ ops draw,_,e,H,Q=>bif draw && !zAjh P ops then zYz P V ops e H λe h=>Q .normal e h else zAcs P V ops (ops.size+1) (zS3 P ops draw) e H λe h=>Q .normal e h
 | M,.seq a b,D,e,H,Q=>bif zAaS a then nfl (zAjA P V R n a D) λD1=>nfl (both V (asg a) D1) λL=>nfl (L++rm (asg a) D) λD2 =>
   zLk L.length
    (λk=>zUI P V R n n0 M a D e H (zXa (λe' h'=>Cur.app _ k (L.map e') h') Q))
    (Cur.of _ λvs h'=>zUI P V R n n0 M b D2 (mg [] L e vs) h' Q)
  else nfl (zAjA P V R n a D) λD1=>zUI P V R n n0 M a D e H (zXa (λe' h'=>zUI P V R n n0 M b D1 e' h' Q) Q)
 | M,.cond c a b,D,e,H,Q=>Mcd (ev e c) (zUI P V R n n0 M a D e H Q) (zUI P V R n n0 M b D e H Q)
 | M,.block id a,D,e,H,Q=>zUI P V R n n0 M a D e H (zZI id Q)
 | M,.loop a,D,e,H,Q=>nfl (both V (asg a) D) λL=>nfl (L++rm (asg a) D) λD1=>zVS L.length
   (λnext=>Cur.of _ λvs h'=>zUI P V R n n0 M a D1 (mg [] L e vs) h'
    (zXa (λe'' h''=>Cur.app _ next (L.map e'') h'') Q)) (L.map e) H
 | _,.exit id,_,e,H,Q=>Q (.exit id) e H
 | _,.ret,_,e,H,Q=>Q .ret e H
 | _,_,_,_,_,_=>False
theorem zAhR {P:Program}{V R:List Nat}{n n0:Nat}(c:Code):∀ {M:Bool} {D:List Nat} {e:Env} {H:zAw} {Q:Exit->Env->zAw->Prop},zUI P V R n n0 M c D e H Q=den P V R n n0 M c D e H Q:=by
 induction c with
 | region l ops draw=>intros;simp only[zUI,den,zVY,zAeR,zAaW]
 | seq a b iha ihb=>intro M D e H Q;simp only[zUI,den,zO8,zAcv,iha,ihb];rfl
 | loop a iha=>intro M D e H Q;simp only[zUI,den,zO8,iha];rfl
 | rangeFunc g ps as b iha ihb=>intro M D e H Q;simp only[zUI,den,zO8,zAcv,zYA,iha,ihb]
 | cond c a b iha ihb=>intro M D e H Q;simp only[zUI,den,iha,ihb]
 | block id a iha=>intro M D e H Q;simp only[zUI,den,iha]
 | scope a iha=>intro M D e H Q;simp only[zUI,den,iha]
 | _=>intros;simp only[zUI,den]
def zAeS (P:Program)(V:List Nat)(fn:Func)(args:List Value)(H:zAw)(R:zAm):Prop :=
 match fn.body with
 | some c=>bif zUO c then zUI P V (zGW fn.results.toList) fn.ntmps H.size true c (zAbJ args.length) (zAgo args) H (zAmp P H.size fn R)
  else zUI P V (zGW fn.results.toList) fn.ntmps 0 false c (zAbJ args.length) (zAgo args) H (zAmo P fn R)
 | none=>False
def zAeT (P:Program)(V:List Nat)(fn:Func)(nargs:Nat):Bool :=
 match fn.body with
 | some c=>Nat.ble nargs fn.ntmps&&(match zVa P V (zGW fn.results.toList) fn.ntmps c (zAbJ nargs) with
  | some ⟨some d,_⟩=>zAck (zGW fn.results.toList) d
  | some ⟨none,_⟩=>true
  | none=>false)
 | none=>false
theorem zAeU {P:Program}{V:List Nat}{fn:Func}{args:List Value}{H:zAw}{R:zAm}:zAeS P V fn args H R=zAk6 P V fn args H R:=by
 unfold zAeS zAk6
 cases fn.body<;>simp only[zAhR]
theorem zAeV {P:Program}{V:List Nat}{fn:Func}{n:Nat}:zAeT P V fn n=zAk7 P V fn n:=by
 unfold zAeT zAk7
 cases fn.body with
 | none=>rfl
 | some c=>simp only[zYA];rfl
theorem zAcw {P:Program}{f:FuncId}{fn:Func}{V:List Nat}{args:List Value}{H:zAw}{R:zAm}(hf:P.funcs[f]? = some fn)(hc:zAeT P V fn args.length=true)(h:zAeS P V fn args H R):zAz P f args H R :=
 zAeQ hf (by rw[<- zAeV];exact hc) (by rw[<- zAeU];exact h)
theorem zAx {P:Program}{f:FuncId}{fn:Func}(V:List Nat){args:List Value}{H:zAw}{R:zAm}{X:Prop}(hf:P.funcs[f]? = some fn)(hc:zAeT P V fn args.length=true)(hd:zAeS P V fn args H R=X)(h:X):zAz P f args H R :=
 zAcw hf hc (by rw[hd];exact h)
end Go.X
