import Derived.Test.YticdfkoncnnmmaaGreatDoorGD
set_option linter.unusedSimpArgs false
set_option linter.unusedVariables false
namespace Go.X
universe u
def nfl {α:Sort u}:List Nat->(List Nat->α)->α
 | [],k=>k []
 | a::l,k=>nfl l λl'=>k (a::l')
theorem zOJ {α:Sort u}:∀ {l:List Nat} {k:List Nat->α},nfl l k=k l
 | [],_=>rfl
 | a::l,k=>by rw[nfl,zOJ]
def nfo {α:Sort u}:Option (List Nat)->(Option (List Nat)->α)->α
 | none,k=>k none
 | some l,k=>nfl l λl'=>k (some l')
theorem zAb2 {α:Sort u}{o:Option (List Nat)}{k:Option (List Nat)->α}:nfo o k=k o:=by
 cases o with
 | none=>rfl
 | some l=>rw[nfo,zOJ]
def zAb3 (P:Program)(V:List Nat)(ops:Array Oper):Nat->List Item->Env->zAw->(Env->zAw->Prop)->Prop
 | 0,_,_,_,_=>False
 | _+1,[],e,H,K=>K e H
 | f+1,(o,rs)::rest,e,H,K=>match o.guard with
  | none=>opX P false o (ev e) H λv h=>Mre (zVx P (e.put o.dst v) h rs) (zAb3 P V ops f rest (e.put o.dst v) h K)
  | some g=>match (ops[g.1]?).bind (·.dst) with
   | some t=>nfl (zIp (zEY ((o,rs)::(zIf g rest).1))) λA=>nfl (both V A V) λL =>
    zK0 L.length
     (λk=>Mif (e t) g.2 (zY5 P ((o,rs)::(zIf g rest).1) e H λe' h=>Cur.app _ k (L.map e') h)
      (Cur.app _ k (L.map λ_=>undef) H))
     (Cur.of _ λvs h=>zAb3 P V ops f (zIf g rest).2 (mg A L e vs) h K)
   | none=>False
theorem zAew {P:Program}{V:List Nat}{ops:Array Oper}:∀ {f:Nat} {l:List Item} {e:Env} {H:zAw} {K:Env->zAw->Prop},zAb3 P V ops f l e H K=zAf4 P V ops f l e H K:=by
 intro f
 induction f with
 | zero=>intros;rfl
 | succ f ih =>
  intro l e H K
  cases l with
  | nil=>rfl
  | cons x rest =>
   obtain⟨o,rs⟩:=x
   simp only[zAb3,zAf4,zOJ,ih]
   cases o.guard with
   | none=>rfl
   | some g =>
    simp only
    cases (ops[g.1]?).bind (·.dst)<;>rfl
def zTB (V:List Nat)(ops:Array Oper):Nat->List Item->List Nat->Option (List Nat)
 | 0,_,_=>none
 | _+1,[],D=>some D
 | f+1,(o,rs)::rest,D=>match o.guard with
  | none=>bif zAel D o&&rs.all (zAem (addD o.dst D)) then zTB V ops f rest (addD o.dst D) else none
  | some g=>match (ops[g.1]?).bind (·.dst) with
   | some t=>nfl (zIp (zEY ((o,rs)::(zIf g rest).1))) λA=>bif has D t && !has A t then
     (match zJv ((o,rs)::(zIf g rest).1) D with
     | some _=>nfl (both V A V++rm A D) λD'=>zTB V ops f (zIf g rest).2 D'
     | none=>none) else none
   | none=>none
theorem zAaq {V:List Nat}{ops:Array Oper}:∀ {f:Nat} {l:List Item} {D:List Nat},zTB V ops f l D=zQ9 V ops f l D:=by
 intro f
 induction f with
 | zero=>intros;rfl
 | succ f ih =>
  intro l D
  cases l with
  | nil=>rfl
  | cons x rest =>
   obtain⟨o,rs⟩:=x
   simp only[zTB,zQ9,zOJ,ih]
   cases o.guard with
   | none=>rfl
   | some g =>
    simp only
    cases (ops[g.1]?).bind (·.dst) with
    | none=>rfl
    | some t =>
     simp only
     cases (has D t && !has (zIp (zEY ((o,rs)::(zIf g rest).1))) t) with
     | false=>rfl
     | true =>
      simp only[cond_true]
      cases zJv ((o,rs)::(zIf g rest).1) D<;>rfl
def nft {α:Sort u}:Tr->(Tr->α)->α
 | .done,k=>k .done
 | .stop,k=>k .stop
 | .lt i t,k=>nft t λt'=>k (.lt i t')
 | .hv i rs t m,k=>nfl rs λrs'=>nft t λt'=>nft m λm'=>k (.hv i rs' t' m')
theorem zWM {α:Sort u}:∀ {t:Tr} {k:Tr->α},nft t k=k t
 | .done,_=>rfl
 | .stop,_=>rfl
 | .lt i t,k=>by rw[nft,zWM]
 | .hv i rs t m,k=>by rw[nft,zOJ,zWM,zWM]
def zX5 (P:Program)(V:List Nat)(ops:Array Oper)(e:Env)(H:zAw)(K:Env->zAw->Prop):Prop :=
 nfl (zIp ops.toList) λA=>nfl (both V A V) λL=>nft (zVB P ops) λT =>
 zK0 L.length (λk=>zWI P ops T e H λe' h=>Cur.app _ k (L.map e') h)
  (Cur.of _ λvs h=>K (mg A L e vs) h)
theorem zAar {P:Program}{V:List Nat}{ops:Array Oper}{e:Env}{H:zAw}{K:Env->zAw->Prop}:zX5 P V ops e H K=zAbT P V ops e H K:=by
 simp only[zX5,zAbT,zOJ,zWM]
def zAb4 (P:Program)(V:List Nat)(n:Nat)(ops:Array Oper)(D:List Nat):Option (List Nat) :=
 nfl (zIp ops.toList) λA=>nfl (both V A V) λL=>nft (zVB P ops) λT=>nfl (List.range ops.size) λR =>
 bif P.follows .mixedOrders&&zAen n ops&&wfT P ops T R [] true&&zAer ops L T D then some (L++rm A D) else none
theorem zAb5 {P:Program}{V:List Nat}{n:Nat}{ops:Array Oper}{D:List Nat}:zAb4 P V n ops D=zAes P V n ops D:=by
 simp only[zAb4,zAes,zOJ,zWM]
def zUV (P:Program)(V R:List Nat)(n:Nat):Code->List Nat->Option Inf
 | .rangeFunc g ps as b,D=>bif zXX D g&&ps.toList.all (λp=>Nat.ble (p+1) n)&&(!zNa b || zAbV R D) then (match zUV P V R n as (ps.toList++D) with
  | some ⟨some Da,_⟩=>(match zUV P V R n b Da with
   | some ⟨_,E⟩=>some ⟨some D,E.map λp=>(p.1,D)⟩
   | none=>none)
  | _=>none) else none
 | .skip,D=>some ⟨some D,[]⟩
 | .label _,D=>some ⟨some D,[]⟩
 | .scope a,D=>zUV P V R n a D
 | .region _ ops draw,D=>bif draw && !zAiW P ops then nfo (zAb4 P V n ops D) λd=>d.map λD'=>⟨some D',[]⟩ else bif (bif draw then zAbK P n ops (zAeo P ops) else ops.toList.all (zXO n)) then
   nfo (zTB V ops (ops.size+1) (zSA P ops draw) D) λd=>d.map λD'=>⟨some D',[]⟩ else none
 | .seq a b,D=>match zUV P V R n a D with
  | some ⟨some Da,E⟩=>nfl (bif zAan a then both V (asg a) Da++rm (asg a) D else Da) λD1=>match zUV P V R n b D1 with
   | some ⟨nb,E2⟩=>some ⟨nb,E++E2⟩
   | none=>none
  | some ⟨none,E⟩=>some ⟨none,E⟩
  | none=>none
 | .cond c a b,D=>bif zXX D c then (match zUV P V R n a D,zUV P V R n b D with
  | some ⟨na,Ea⟩,some ⟨nb,Eb⟩=>nfo (zTz (na.toList++nb.toList)) λm=>some ⟨m,Ea++Eb⟩
  | _,_=>none) else none
 | .block id a,D=>match zUV P V R n a D with
  | some ⟨na,E⟩=>nfo (zTz (na.toList++exD id E)) λm=>some ⟨m,zAiX id E⟩
  | none=>none
 | .loop a,D=>nfl (both V (asg a) D) λL=>nfl (L++rm (asg a) D) λD1=>match zUV P V R n a D1 with
  | some ⟨na,E⟩=>bif (match na with|some d=>zAbV L d|none=>true) then some ⟨none,E⟩ else none
  | none=>none
 | .exit id,D=>some ⟨none,[(id,D)]⟩
 | .ret,D=>bif zAbV R D then some ⟨none,[]⟩ else none
 | _,_=>some ⟨none,[]⟩
theorem zX6 {P:Program}{V R:List Nat}{n:Nat}(c:Code):∀ {D:List Nat},zUV P V R n c D=chk P V R n c D:=by
 induction c with
 | region l ops draw =>
  intro D
  simp only[zUV,chk,zPl,zAb2,zAaq,zAb5]
  cases (draw && !zAiW P ops)
  rotate_left
  ·rfl
  simp only[cond_false]
  cases (bif draw then zAbK P n ops (zAeo P ops) else ops.toList.all (zXO n))<;>rfl
 | seq a b iha ihb=>intro D;simp only[zUV,chk,zOJ,iha,ihb];rfl
 | cond c a b iha ihb=>intro D;simp only[zUV,chk,zAb2,iha,ihb];rfl
 | block id a iha=>intro D;simp only[zUV,chk,zAb2,iha];rfl
 | scope a iha=>intro D;simp only[zUV,chk,iha]
 | loop a iha=>intro D;simp only[zUV,chk,zOJ,iha];rfl
 | rangeFunc g ps as b iha ihb=>intro D;simp only[zUV,chk,iha,ihb];rfl
 | _=>intros;rfl
def zAjg (P:Program)(V R:List Nat)(n:Nat)(a:Code)(D:List Nat):List Nat:=match zUV P V R n a D with
 | some ⟨some d,_⟩=>d
 | _=>[]
theorem zAb6 {P:Program}{V R:List Nat}{n:Nat}{a:Code}{D:List Nat}:zAjg P V R n a D=zRX P V R n a D:=by
 simp only[zAjg,zRX,zX6];rfl
def zUu (P:Program)(V R:List Nat)(n n0:Nat):Bool->Code->List Nat->Env->zAw->(Exit->Env->zAw->Prop)->Prop
 | M,.rangeFunc g ps as b,D,e,H,Q=>bif M then nfl (ps.toList++D) λD0=>nfl (zAjg P V R n as D0) λD1=>nfl (zAbX (zUV P V R n b D1)) λids =>
   zSC P n0 (ev e g) H (λargs h k=>args.length=ps.size/\zUu P V R n n0 false as D0 (zX2 ps.toList 0 args e) h
     (zAl3 λe' h'=>zAiY (H.size+1) h' λh''=>zUu P V R n n0 false b D1 e' h'' (zAf7 k)))
    (zX1 (zNa b) Q e ids)
  else False
 | _,.skip,_,e,H,Q=>Q .normal e H
 | _,.label _,_,e,H,Q=>Q .normal e H
 | M,.scope a,D,e,H,Q=>zUu P V R n n0 M a D e H Q
 | _,.region _ ops draw,_,e,H,Q=>bif draw && !zAiW P ops then zX5 P V ops e H λe h=>Q .normal e h else zAb3 P V ops (ops.size+1) (zSA P ops draw) e H λe h=>Q .normal e h
 | M,.seq a b,D,e,H,Q=>bif zAan a then nfl (zAjg P V R n a D) λD1=>nfl (both V (asg a) D1) λL=>nfl (L++rm (asg a) D) λD2 =>
   zK0 L.length
    (λk=>zUu P V R n n0 M a D e H (zWJ (λe' h'=>Cur.app _ k (L.map e') h') Q))
    (Cur.of _ λvs h'=>zUu P V R n n0 M b D2 (mg [] L e vs) h' Q)
  else nfl (zAjg P V R n a D) λD1=>zUu P V R n n0 M a D e H (zWJ (λe' h'=>zUu P V R n n0 M b D1 e' h' Q) Q)
 | M,.cond c a b,D,e,H,Q=>Mcd (ev e c) (zUu P V R n n0 M a D e H Q) (zUu P V R n n0 M b D e H Q)
 | M,.block id a,D,e,H,Q=>zUu P V R n n0 M a D e H (zZa id Q)
 | M,.loop a,D,e,H,Q=>nfl (both V (asg a) D) λL=>nfl (L++rm (asg a) D) λD1=>zVw L.length
   (λnext=>Cur.of _ λvs h'=>zUu P V R n n0 M a D1 (mg [] L e vs) h'
    (zWJ (λe'' h''=>Cur.app _ next (L.map e'') h'') Q)) (L.map e) H
 | _,.exit id,_,e,H,Q=>Q (.exit id) e H
 | _,.ret,_,e,H,Q=>Q .ret e H
 | _,_,_,_,_,_=>False
theorem zAhv {P:Program}{V R:List Nat}{n n0:Nat}(c:Code):∀ {M:Bool} {D:List Nat} {e:Env} {H:zAw} {Q:Exit->Env->zAw->Prop},zUu P V R n n0 M c D e H Q=den P V R n n0 M c D e H Q:=by
 induction c with
 | region l ops draw=>intros;simp only[zUu,den,zVC,zAew,zAar]
 | seq a b iha ihb=>intro M D e H Q;simp only[zUu,den,zOJ,zAb6,iha,ihb];rfl
 | loop a iha=>intro M D e H Q;simp only[zUu,den,zOJ,iha];rfl
 | rangeFunc g ps as b iha ihb=>intro M D e H Q;simp only[zUu,den,zOJ,zAb6,zX6,iha,ihb]
 | cond c a b iha ihb=>intro M D e H Q;simp only[zUu,den,iha,ihb]
 | block id a iha=>intro M D e H Q;simp only[zUu,den,iha]
 | scope a iha=>intro M D e H Q;simp only[zUu,den,iha]
 | _=>intros;simp only[zUu,den]
def zAex (P:Program)(V:List Nat)(fn:Func)(args:List Value)(H:zAw)(R:zAn):Prop :=
 match fn.body with
 | some c=>bif zUz c then zUu P V (zGR fn.results.toList) fn.ntmps H.size true c (zAbk args.length) (zAf8 args) H (zAl5 P H.size fn R)
  else zUu P V (zGR fn.results.toList) fn.ntmps 0 false c (zAbk args.length) (zAf8 args) H (zAl4 P fn R)
 | none=>False
def zAey (P:Program)(V:List Nat)(fn:Func)(nargs:Nat):Bool :=
 match fn.body with
 | some c=>Nat.ble nargs fn.ntmps&&(match zUV P V (zGR fn.results.toList) fn.ntmps c (zAbk nargs) with
  | some ⟨some d,_⟩=>zAbV (zGR fn.results.toList) d
  | some ⟨none,_⟩=>true
  | none=>false)
 | none=>false
theorem zAez {P:Program}{V:List Nat}{fn:Func}{args:List Value}{H:zAw}{R:zAn}:zAex P V fn args H R=zAkQ P V fn args H R:=by
 unfold zAex zAkQ
 cases fn.body<;>simp only[zAhv]
theorem zAeA {P:Program}{V:List Nat}{fn:Func}{n:Nat}:zAey P V fn n=zAkR P V fn n:=by
 unfold zAey zAkR
 cases fn.body with
 | none=>rfl
 | some c=>simp only[zX6];rfl
theorem zAb7 {P:Program}{f:FuncId}{fn:Func}{V:List Nat}{args:List Value}{H:zAw}{R:zAn}(hf:P.funcs[f]? = some fn)(hc:zAey P V fn args.length=true)(h:zAex P V fn args H R):zAz P f args H R :=
 zAev hf (by rw[<- zAeA];exact hc) (by rw[<- zAez];exact h)
theorem zAx {P:Program}{f:FuncId}{fn:Func}(V:List Nat){args:List Value}{H:zAw}{R:zAn}{X:Prop}(hf:P.funcs[f]? = some fn)(hc:zAey P V fn args.length=true)(hd:zAex P V fn args H R=X)(h:X):zAz P f args H R :=
 zAb7 hf hc (by rw[hd];exact h)
end Go.X
