import Derived.Test.YticdfkoncnnmmaaGreatDoorGD
set_option linter.unusedSimpArgs false
set_option linter.unusedVariables false
namespace Go.X
universe u
def nfl {α:Sort u}:List Nat->(List Nat->α)->α
 | [],k=>k []
 | a::l,k=>nfl l λl'=>k (a::l')
theorem zOY {α:Sort u}:∀ {l:List Nat} {k:List Nat->α},nfl l k=k l
 | [],_=>rfl
 | a::l,k=>by rw[nfl,zOY]
def nfo {α:Sort u}:Option (List Nat)->(Option (List Nat)->α)->α
 | none,k=>k none
 | some l,k=>nfl l λl'=>k (some l')
theorem zAcy {α:Sort u}{o:Option (List Nat)}{k:Option (List Nat)->α}:nfo o k=k o:=by
 cases o with
 | none=>rfl
 | some l=>rw[nfo,zOY]
def zAcz (P:Program)(V:List Nat)(ops:Array Oper):Nat->List Item->Env->zAx->(Env->zAx->Prop)->Prop
 | 0,_,_,_,_=>False
 | _+1,[],e,H,K=>K e H
 | f+1,(o,rs)::rest,e,H,K=>match o.guard with
  | none=>opX P false o (ev e) H λv h=>Mre (zV3 P (e.put o.dst v) h rs) (zAcz P V ops f rest (e.put o.dst v) h K)
  | some g=>match (ops[g.1]?).bind (·.dst) with
   | some t=>nfl (zIy (zEY ((o,rs)::(zIm g rest).1))) λA=>nfl (both V A V) λL =>
    zLe L.length
     (λk=>Mif (e t) g.2 (zZM P ((o,rs)::(zIm g rest).1) e H λe' h=>Cur.app _ k (L.map e') h)
      (Cur.app _ k (L.map λ_=>undef) H))
     (Cur.of _ λvs h=>zAcz P V ops f (zIm g rest).2 (mg A L e vs) h K)
   | none=>False
theorem zAeU {P:Program}{V:List Nat}{ops:Array Oper}:∀ {f:Nat} {l:List Item} {e:Env} {H:zAx} {K:Env->zAx->Prop},zAcz P V ops f l e H K=zAgx P V ops f l e H K:=by
 intro f
 induction f with
 | zero=>intros;rfl
 | succ f ih =>
  intro l e H K
  cases l with
  | nil=>rfl
  | cons x rest =>
   obtain⟨o,rs⟩:=x
   simp only[zAcz,zAgx,zOY,ih]
   cases o.guard with
   | none=>rfl
   | some g =>
    simp only
    cases (ops[g.1]?).bind (·.dst)<;>rfl
def zT4 (V:List Nat)(ops:Array Oper):Nat->List Item->List Nat->Option (List Nat)
 | 0,_,_=>none
 | _+1,[],D=>some D
 | f+1,(o,rs)::rest,D=>match o.guard with
  | none=>bif zAeJ D o&&rs.all (zAeK (addD o.dst D)) then zT4 V ops f rest (addD o.dst D) else none
  | some g=>match (ops[g.1]?).bind (·.dst) with
   | some t=>nfl (zIy (zEY ((o,rs)::(zIm g rest).1))) λA=>bif has D t && !has A t then
     (match zJL ((o,rs)::(zIm g rest).1) D with
     | some _=>nfl (both V A V++rm A D) λD'=>zT4 V ops f (zIm g rest).2 D'
     | none=>none) else none
   | none=>none
theorem zAa5 {V:List Nat}{ops:Array Oper}:∀ {f:Nat} {l:List Item} {D:List Nat},zT4 V ops f l D=zRE V ops f l D:=by
 intro f
 induction f with
 | zero=>intros;rfl
 | succ f ih =>
  intro l D
  cases l with
  | nil=>rfl
  | cons x rest =>
   obtain⟨o,rs⟩:=x
   simp only[zT4,zRE,zOY,ih]
   cases o.guard with
   | none=>rfl
   | some g =>
    simp only
    cases (ops[g.1]?).bind (·.dst) with
    | none=>rfl
    | some t =>
     simp only
     cases (has D t && !has (zIy (zEY ((o,rs)::(zIm g rest).1))) t) with
     | false=>rfl
     | true =>
      simp only[cond_true]
      cases zJL ((o,rs)::(zIm g rest).1) D<;>rfl
def nft {α:Sort u}:Tr->(Tr->α)->α
 | .done,k=>k .done
 | .stop,k=>k .stop
 | .lt i t,k=>nft t λt'=>k (.lt i t')
 | .hv i rs t m,k=>nfl rs λrs'=>nft t λt'=>nft m λm'=>k (.hv i rs' t' m')
theorem zXs {α:Sort u}:∀ {t:Tr} {k:Tr->α},nft t k=k t
 | .done,_=>rfl
 | .stop,_=>rfl
 | .lt i t,k=>by rw[nft,zXs]
 | .hv i rs t m,k=>by rw[nft,zOY,zXs,zXs]
def zYI (P:Program)(V:List Nat)(ops:Array Oper)(e:Env)(H:zAx)(K:Env->zAx->Prop):Prop :=
 nfl (zIy ops.toList) λA=>nfl (both V A V) λL=>nft (zV7 P ops) λT =>
 zLe L.length (λk=>zXo P ops T e H λe' h=>Cur.app _ k (L.map e') h)
  (Cur.of _ λvs h=>K (mg A L e vs) h)
theorem zAa6 {P:Program}{V:List Nat}{ops:Array Oper}{e:Env}{H:zAx}{K:Env->zAx->Prop}:zYI P V ops e H K=zAcp P V ops e H K:=by
 simp only[zYI,zAcp,zOY,zXs]
def zAcA (P:Program)(V:List Nat)(n:Nat)(ops:Array Oper)(D:List Nat):Option (List Nat) :=
 nfl (zIy ops.toList) λA=>nfl (both V A V) λL=>nft (zV7 P ops) λT=>nfl (List.range ops.size) λR =>
 bif P.follows .mixedOrders&&zAeL n ops&&wfT P ops T R [] true&&zAeP ops L T D then some (L++rm A D) else none
theorem zAcB {P:Program}{V:List Nat}{n:Nat}{ops:Array Oper}{D:List Nat}:zAcA P V n ops D=zAeQ P V n ops D:=by
 simp only[zAcA,zAeQ,zOY,zXs]
def zVk (P:Program)(V R:List Nat)(n:Nat):Code->List Nat->Option Inf
 | .rangeFunc g ps as b,D=>bif zYA D g&&ps.toList.all (λp=>Nat.ble (p+1) n)&&(!zNq b || zAcr R D) then (match zVk P V R n as (ps.toList++D) with
  | some ⟨some Da,_⟩=>(match zVk P V R n b Da with
   | some ⟨_,E⟩=>some ⟨some D,E.map λp=>(p.1,D)⟩
   | none=>none)
  | _=>none) else none
 | .skip,D=>some ⟨some D,[]⟩
 | .label _,D=>some ⟨some D,[]⟩
 | .scope a,D=>zVk P V R n a D
 | .region _ ops draw,D=>bif draw && !zAjr P ops then nfo (zAcA P V n ops D) λd=>d.map λD'=>⟨some D',[]⟩ else bif (bif draw then zAcg P n ops (zAeM P ops) else ops.toList.all (zYs n)) then
   nfo (zT4 V ops (ops.size+1) (zTa P ops draw) D) λd=>d.map λD'=>⟨some D',[]⟩ else none
 | .seq a b,D=>match zVk P V R n a D with
  | some ⟨some Da,E⟩=>nfl (bif zAa2 a then both V (asg a) Da++rm (asg a) D else Da) λD1=>match zVk P V R n b D1 with
   | some ⟨nb,E2⟩=>some ⟨nb,E++E2⟩
   | none=>none
  | some ⟨none,E⟩=>some ⟨none,E⟩
  | none=>none
 | .cond c a b,D=>bif zYA D c then (match zVk P V R n a D,zVk P V R n b D with
  | some ⟨na,Ea⟩,some ⟨nb,Eb⟩=>nfo (zT2 (na.toList++nb.toList)) λm=>some ⟨m,Ea++Eb⟩
  | _,_=>none) else none
 | .block id a,D=>match zVk P V R n a D with
  | some ⟨na,E⟩=>nfo (zT2 (na.toList++exD id E)) λm=>some ⟨m,zAjs id E⟩
  | none=>none
 | .loop a,D=>nfl (both V (asg a) D) λL=>nfl (L++rm (asg a) D) λD1=>match zVk P V R n a D1 with
  | some ⟨na,E⟩=>bif (match na with|some d=>zAcr L d|none=>true) then some ⟨none,E⟩ else none
  | none=>none
 | .exit id,D=>some ⟨none,[(id,D)]⟩
 | .ret,D=>bif zAcr R D then some ⟨none,[]⟩ else none
 | _,_=>some ⟨none,[]⟩
theorem zYJ {P:Program}{V R:List Nat}{n:Nat}(c:Code):∀ {D:List Nat},zVk P V R n c D=chk P V R n c D:=by
 induction c with
 | region l ops draw =>
  intro D
  simp only[zVk,chk,zPA,zAcy,zAa5,zAcB]
  cases (draw && !zAjr P ops)
  rotate_left
  ·rfl
  simp only[cond_false]
  cases (bif draw then zAcg P n ops (zAeM P ops) else ops.toList.all (zYs n))<;>rfl
 | seq a b iha ihb=>intro D;simp only[zVk,chk,zOY,iha,ihb];rfl
 | cond c a b iha ihb=>intro D;simp only[zVk,chk,zAcy,iha,ihb];rfl
 | block id a iha=>intro D;simp only[zVk,chk,zAcy,iha];rfl
 | scope a iha=>intro D;simp only[zVk,chk,iha]
 | loop a iha=>intro D;simp only[zVk,chk,zOY,iha];rfl
 | rangeFunc g ps as b iha ihb=>intro D;simp only[zVk,chk,iha,ihb];rfl
 | _=>intros;rfl
def zAjL (P:Program)(V R:List Nat)(n:Nat)(a:Code)(D:List Nat):List Nat:=match zVk P V R n a D with
 | some ⟨some d,_⟩=>d
 | _=>[]
theorem zAcC {P:Program}{V R:List Nat}{n:Nat}{a:Code}{D:List Nat}:zAjL P V R n a D=zSy P V R n a D:=by
 simp only[zAjL,zSy,zYJ];rfl
def zUS (P:Program)(V R:List Nat)(n n0:Nat):Bool->Code->List Nat->Env->zAx->(Exit->Env->zAx->Prop)->Prop
 | M,.rangeFunc g ps as b,D,e,H,Q=>bif M then nfl (ps.toList++D) λD0=>nfl (zAjL P V R n as D0) λD1=>nfl (zAct (zVk P V R n b D1)) λids =>
   zTc P n0 (ev e g) H (λargs h k=>args.length=ps.size/\zUS P V R n n0 false as D0 (zYF ps.toList 0 args e) h
     (zAmF λe' h'=>zAjt (H.size+1) h' λh''=>zUS P V R n n0 false b D1 e' h'' (zAgA k)))
    (zYE (zNq b) Q e ids)
  else False
 | _,.skip,_,e,H,Q=>Q .normal e H
 | _,.label _,_,e,H,Q=>Q .normal e H
 | M,.scope a,D,e,H,Q=>zUS P V R n n0 M a D e H Q
 | _,.region _ ops draw,_,e,H,Q=>bif draw && !zAjr P ops then zYI P V ops e H λe h=>Q .normal e h else zAcz P V ops (ops.size+1) (zTa P ops draw) e H λe h=>Q .normal e h
 | M,.seq a b,D,e,H,Q=>bif zAa2 a then nfl (zAjL P V R n a D) λD1=>nfl (both V (asg a) D1) λL=>nfl (L++rm (asg a) D) λD2 =>
   zLe L.length
    (λk=>zUS P V R n n0 M a D e H (zXp (λe' h'=>Cur.app _ k (L.map e') h') Q))
    (Cur.of _ λvs h'=>zUS P V R n n0 M b D2 (mg [] L e vs) h' Q)
  else nfl (zAjL P V R n a D) λD1=>zUS P V R n n0 M a D e H (zXp (λe' h'=>zUS P V R n n0 M b D1 e' h' Q) Q)
 | M,.cond c a b,D,e,H,Q=>Mcd (ev e c) (zUS P V R n n0 M a D e H Q) (zUS P V R n n0 M b D e H Q)
 | M,.block id a,D,e,H,Q=>zUS P V R n n0 M a D e H (zZR id Q)
 | M,.loop a,D,e,H,Q=>nfl (both V (asg a) D) λL=>nfl (L++rm (asg a) D) λD1=>zV2 L.length
   (λnext=>Cur.of _ λvs h'=>zUS P V R n n0 M a D1 (mg [] L e vs) h'
    (zXp (λe'' h''=>Cur.app _ next (L.map e'') h'') Q)) (L.map e) H
 | _,.exit id,_,e,H,Q=>Q (.exit id) e H
 | _,.ret,_,e,H,Q=>Q .ret e H
 | _,_,_,_,_,_=>False
theorem zAh0 {P:Program}{V R:List Nat}{n n0:Nat}(c:Code):∀ {M:Bool} {D:List Nat} {e:Env} {H:zAx} {Q:Exit->Env->zAx->Prop},zUS P V R n n0 M c D e H Q=den P V R n n0 M c D e H Q:=by
 induction c with
 | region l ops draw=>intros;simp only[zUS,den,zV8,zAeU,zAa6]
 | seq a b iha ihb=>intro M D e H Q;simp only[zUS,den,zOY,zAcC,iha,ihb];rfl
 | loop a iha=>intro M D e H Q;simp only[zUS,den,zOY,iha];rfl
 | rangeFunc g ps as b iha ihb=>intro M D e H Q;simp only[zUS,den,zOY,zAcC,zYJ,iha,ihb]
 | cond c a b iha ihb=>intro M D e H Q;simp only[zUS,den,iha,ihb]
 | block id a iha=>intro M D e H Q;simp only[zUS,den,iha]
 | scope a iha=>intro M D e H Q;simp only[zUS,den,iha]
 | _=>intros;simp only[zUS,den]
def zAeV (P:Program)(V:List Nat)(fn:Func)(args:List Value)(H:zAx)(R:zAm):Prop :=
 match fn.body with
 | some c=>bif zUX c then zUS P V (zGX fn.results.toList) fn.ntmps H.size true c (zAbT args.length) (zAgB args) H (zAmH P H.size fn R)
  else zUS P V (zGX fn.results.toList) fn.ntmps 0 false c (zAbT args.length) (zAgB args) H (zAmG P fn R)
 | none=>False
def zAeW (P:Program)(V:List Nat)(fn:Func)(nargs:Nat):Bool :=
 match fn.body with
 | some c=>Nat.ble nargs fn.ntmps&&(match zVk P V (zGX fn.results.toList) fn.ntmps c (zAbT nargs) with
  | some ⟨some d,_⟩=>zAcr (zGX fn.results.toList) d
  | some ⟨none,_⟩=>true
  | none=>false)
 | none=>false
theorem zAeX {P:Program}{V:List Nat}{fn:Func}{args:List Value}{H:zAx}{R:zAm}:zAeV P V fn args H R=zAlm P V fn args H R:=by
 unfold zAeV zAlm
 cases fn.body<;>simp only[zAh0]
theorem zAeY {P:Program}{V:List Nat}{fn:Func}{n:Nat}:zAeW P V fn n=zAln P V fn n:=by
 unfold zAeW zAln
 cases fn.body with
 | none=>rfl
 | some c=>simp only[zYJ];rfl
theorem zAcD {P:Program}{f:FuncId}{fn:Func}{V:List Nat}{args:List Value}{H:zAx}{R:zAm}(hf:P.funcs[f]? = some fn)(hc:zAeW P V fn args.length=true)(h:zAeV P V fn args H R):zAA P f args H R :=
 zAeT hf (by rw[<- zAeY];exact hc) (by rw[<- zAeX];exact h)
theorem zAy {P:Program}{f:FuncId}{fn:Func}(V:List Nat){args:List Value}{H:zAx}{R:zAm}{X:Prop}(hf:P.funcs[f]? = some fn)(hc:zAeW P V fn args.length=true)(hd:zAeV P V fn args H R=X)(h:X):zAA P f args H R :=
 zAcD hf hc (by rw[hd];exact h)
end Go.X
