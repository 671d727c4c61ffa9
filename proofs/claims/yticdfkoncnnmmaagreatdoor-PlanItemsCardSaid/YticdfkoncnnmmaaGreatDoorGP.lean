import Derived.Test.YticdfkoncnnmmaaGreatDoorGD
set_option linter.unusedSimpArgs false
set_option linter.unusedVariables false
namespace Go.X
universe u
def nfl {α:Sort u}:List Nat->(List Nat->α)->α
 | [],k=>k []
 | a :: l,k=>nfl l fun l'=>k (a :: l')
theorem zL1 {α:Sort u}:∀ {l:List Nat} {k:List Nat->α},nfl l k=k l
 | [],_=>rfl
 | a :: l,k=>by rw[nfl,zL1]
def nfo {α:Sort u}:Option (List Nat)->(Option (List Nat)->α)->α
 | none,k=>k none
 | some l,k=>nfl l fun l'=>k (some l')
theorem zYr {α:Sort u}{o:Option (List Nat)}{k:Option (List Nat)->α}:nfo o k=k o:=by
 cases o with
 | none=>rfl
 | some l=>rw[nfo,zL1]
def zYs (P:Program)(V:List Nat)(ops:Array Oper):Nat->List Item->Env->zAd->(Env->zAd->Prop)->Prop
 | 0,_,_,_,_=>False
 | _+1,[],e,H,K=>K e H
 | f+1,(o,rs) :: rest,e,H,K=>match o.guard with
  | none=>opX P false o (ev e) H fun v h=>Mre (zSp P (e.put o.dst v) h rs) (zYs P V ops f rest (e.put o.dst v) h K)
  | some g=>match (ops[g.1]?).bind (·.dst) with
   | some t=>nfl (zF9 (zCM ((o,rs) :: (zFZ g rest).1))) fun A=>nfl (both V A V) fun L =>
    zIE L.length
     (fun k=>Mif (e t) g.2 (zVM P ((o,rs) :: (zFZ g rest).1) e H fun e' h=>Cur.app _ k (L.map e') h)
      (Cur.app _ k (L.map fun _=>undef) H))
     (Cur.of _ fun vs h=>zYs P V ops f (zFZ g rest).2 (mg A L e vs) h K)
   | none=>False
theorem zAaO {P:Program}{V:List Nat}{ops:Array Oper}:∀ {f:Nat} {l:List Item} {e:Env} {H:zAd} {K:Env->zAd->Prop},zYs P V ops f l e H K=zAcb P V ops f l e H K:=by
 intro f
 induction f with
 | zero=>intros;rfl
 | succ f ih =>
  intro l e H K
  cases l with
  | nil=>rfl
  | cons x rest =>
   obtain⟨o,rs⟩:=x
   simp only[zYs,zAcb,zL1,ih]
   cases o.guard with
   | none=>rfl
   | some g =>
    simp only
    cases (ops[g.1]?).bind (·.dst) <;> rfl
def zQw (V:List Nat)(ops:Array Oper):Nat->List Item->List Nat->Option (List Nat)
 | 0,_,_=>none
 | _+1,[],D=>some D
 | f+1,(o,rs) :: rest,D=>match o.guard with
  | none=>bif zAaD D o && rs.all (zAaE (addD o.dst D)) then zQw V ops f rest (addD o.dst D) else none
  | some g=>match (ops[g.1]?).bind (·.dst) with
   | some t=>nfl (zF9 (zCM ((o,rs) :: (zFZ g rest).1))) fun A=>bif has D t && !has A t then
     (match zHg ((o,rs) :: (zFZ g rest).1) D with
     | some _=>nfl (both V A V++rm A D) fun D'=>zQw V ops f (zFZ g rest).2 D'
     | none=>none) else none
   | none=>none
theorem zW1 {V:List Nat}{ops:Array Oper}:∀ {f:Nat} {l:List Item} {D:List Nat},zQw V ops f l D=zOs V ops f l D:=by
 intro f
 induction f with
 | zero=>intros;rfl
 | succ f ih =>
  intro l D
  cases l with
  | nil=>rfl
  | cons x rest =>
   obtain⟨o,rs⟩:=x
   simp only[zQw,zOs,zL1,ih]
   cases o.guard with
   | none=>rfl
   | some g =>
    simp only
    cases (ops[g.1]?).bind (·.dst) with
    | none=>rfl
    | some t =>
     simp only
     cases (has D t && !has (zF9 (zCM ((o,rs) :: (zFZ g rest).1))) t) with
     | false=>rfl
     | true =>
      simp only[cond_true]
      cases zHg ((o,rs) :: (zFZ g rest).1) D <;> rfl
def nft {α:Sort u}:Tr->(Tr->α)->α
 | .done,k=>k .done
 | .stop,k=>k .stop
 | .lt i t,k=>nft t fun t'=>k (.lt i t')
 | .hv i rs t m,k=>nfl rs fun rs'=>nft t fun t'=>nft m fun m'=>k (.hv i rs' t' m')
theorem zTJ {α:Sort u}:∀ {t:Tr} {k:Tr->α},nft t k=k t
 | .done,_=>rfl
 | .stop,_=>rfl
 | .lt i t,k=>by rw[nft,zTJ]
 | .hv i rs t m,k=>by rw[nft,zL1,zTJ,zTJ]
def zUT (P:Program)(V:List Nat)(ops:Array Oper)(e:Env)(H:zAd)(K:Env->zAd->Prop):Prop :=
 nfl (zF9 ops.toList) fun A=>nfl (both V A V) fun L=>nft (zSt P ops) fun T =>
 zIE L.length (fun k=>zTF P ops T e H fun e' h=>Cur.app _ k (L.map e') h)
  (Cur.of _ fun vs h=>K (mg A L e vs) h)
theorem zW2 {P:Program}{V:List Nat}{ops:Array Oper}{e:Env}{H:zAd}{K:Env->zAd->Prop}:zUT P V ops e H K=zYi P V ops e H K:=by
 simp only[zUT,zYi,zL1,zTJ]
def zYt (P:Program)(V:List Nat)(n:Nat)(ops:Array Oper)(D:List Nat):Option (List Nat) :=
 nfl (zF9 ops.toList) fun A=>nfl (both V A V) fun L=>nft (zSt P ops) fun T=>nfl (List.range ops.size) fun R =>
 bif P.follows .mixedOrders && zAaF n ops && wfT P ops T R [] true && zAaJ ops L T D then some (L++rm A D) else none
theorem zYu {P:Program}{V:List Nat}{n:Nat}{ops:Array Oper}{D:List Nat}:zYt P V n ops D=zAaK P V n ops D:=by
 simp only[zYt,zAaK,zL1,zTJ]
def zRN (P:Program)(V R:List Nat)(n:Nat):Code->List Nat->Option Inf
 | .rangeFunc g ps as b,D=>bif zUL D g && ps.toList.all (fun p=>Nat.ble (p+1) n) && (!zKu b || zYk R D) then (match zRN P V R n as (ps.toList++D) with
  | some ⟨some Da,_⟩=>(match zRN P V R n b Da with
   | some ⟨_,E⟩=>some ⟨some D,E.map fun p=>(p.1,D)⟩
   | none=>none)
  | _=>none) else none
 | .skip,D=>some ⟨some D,[]⟩
 | .label _,D=>some ⟨some D,[]⟩
 | .scope a,D=>zRN P V R n a D
 | .region _ ops draw,D=>bif draw && !zAeT P ops then nfo (zYt P V n ops D) fun d=>d.map fun D'=>⟨some D',[]⟩ else bif (bif draw then zX9 P n ops (zAaG P ops) else ops.toList.all (zUD n)) then
   nfo (zQw V ops (ops.size+1) (zPH P ops draw) D) fun d=>d.map fun D'=>⟨some D',[]⟩ else none
 | .seq a b,D=>match zRN P V R n a D with
  | some ⟨some Da,E⟩=>nfl (bif zWY a then both V (asg a) Da++rm (asg a) D else Da) fun D1=>match zRN P V R n b D1 with
   | some ⟨nb,E2⟩=>some ⟨nb,E++E2⟩
   | none=>none
  | some ⟨none,E⟩=>some ⟨none,E⟩
  | none=>none
 | .cond c a b,D=>bif zUL D c then (match zRN P V R n a D,zRN P V R n b D with
  | some ⟨na,Ea⟩,some ⟨nb,Eb⟩=>nfo (zQu (na.toList++nb.toList)) fun m=>some ⟨m,Ea++Eb⟩
  | _,_=>none) else none
 | .block id a,D=>match zRN P V R n a D with
  | some ⟨na,E⟩=>nfo (zQu (na.toList++exD id E)) fun m=>some ⟨m,zAeU id E⟩
  | none=>none
 | .loop a,D=>nfl (both V (asg a) D) fun L=>nfl (L++rm (asg a) D) fun D1=>match zRN P V R n a D1 with
  | some ⟨na,E⟩=>bif (match na with | some d=>zYk L d | none=>true) then some ⟨none,E⟩ else none
  | none=>none
 | .exit id,D=>some ⟨none,[(id,D)]⟩
 | .ret,D=>bif zYk R D then some ⟨none,[]⟩ else none
 | _,_=>some ⟨none,[]⟩
theorem zUU {P:Program}{V R:List Nat}{n:Nat}(c:Code):∀ {D:List Nat},zRN P V R n c D=chk P V R n c D:=by
 induction c with
 | region l ops draw =>
  intro D
  simp only[zRN,chk,zMC,zYr,zW1,zYu]
  cases (draw && !zAeT P ops)
  rotate_left
  ·rfl
  simp only[cond_false]
  cases (bif draw then zX9 P n ops (zAaG P ops) else ops.toList.all (zUD n)) <;> rfl
 | seq a b iha ihb=>intro D;simp only[zRN,chk,zL1,iha,ihb];rfl
 | cond c a b iha ihb=>intro D;simp only[zRN,chk,zYr,iha,ihb];rfl
 | block id a iha=>intro D;simp only[zRN,chk,zYr,iha];rfl
 | scope a iha=>intro D;simp only[zRN,chk,iha]
 | loop a iha=>intro D;simp only[zRN,chk,zL1,iha];rfl
 | rangeFunc g ps as b iha ihb=>intro D;simp only[zRN,chk,iha,ihb];rfl
 | _=>intros;rfl
def zAfd (P:Program)(V R:List Nat)(n:Nat)(a:Code)(D:List Nat):List Nat:=match zRN P V R n a D with
 | some ⟨some d,_⟩=>d
 | _=>[]
theorem zYv {P:Program}{V R:List Nat}{n:Nat}{a:Code}{D:List Nat}:zAfd P V R n a D=zO9 P V R n a D:=by
 simp only[zAfd,zO9,zUU];rfl
def zRn (P:Program)(V R:List Nat)(n n0:Nat):Bool->Code->List Nat->Env->zAd->(Exit->Env->zAd->Prop)->Prop
 | M,.rangeFunc g ps as b,D,e,H,Q=>bif M then nfl (ps.toList++D) fun D0=>nfl (zAfd P V R n as D0) fun D1=>nfl (zYm (zRN P V R n b D1)) fun ids =>
   zPJ P n0 (ev e g) H (fun args h k=>args.length=ps.size/\zRn P V R n n0 false as D0 (zUQ ps.toList 0 args e) h
     (zAhO fun e' h'=>zAeV (H.size+1) h' fun h''=>zRn P V R n n0 false b D1 e' h'' (zAce k)))
    (zUP (zKu b) Q e ids)
  else False
 | _,.skip,_,e,H,Q=>Q .normal e H
 | _,.label _,_,e,H,Q=>Q .normal e H
 | M,.scope a,D,e,H,Q=>zRn P V R n n0 M a D e H Q
 | _,.region _ ops draw,_,e,H,Q=>bif draw && !zAeT P ops then zUT P V ops e H fun e h=>Q .normal e h else zYs P V ops (ops.size+1) (zPH P ops draw) e H fun e h=>Q .normal e h
 | M,.seq a b,D,e,H,Q=>bif zWY a then nfl (zAfd P V R n a D) fun D1=>nfl (both V (asg a) D1) fun L=>nfl (L++rm (asg a) D) fun D2 =>
   zIE L.length
    (fun k=>zRn P V R n n0 M a D e H (zTG (fun e' h'=>Cur.app _ k (L.map e') h') Q))
    (Cur.of _ fun vs h'=>zRn P V R n n0 M b D2 (mg [] L e vs) h' Q)
  else nfl (zAfd P V R n a D) fun D1=>zRn P V R n n0 M a D e H (zTG (fun e' h'=>zRn P V R n n0 M b D1 e' h' Q) Q)
 | M,.cond c a b,D,e,H,Q=>Mcd (ev e c) (zRn P V R n n0 M a D e H Q) (zRn P V R n n0 M b D e H Q)
 | M,.block id a,D,e,H,Q=>zRn P V R n n0 M a D e H (zVR id Q)
 | M,.loop a,D,e,H,Q=>nfl (both V (asg a) D) fun L=>nfl (L++rm (asg a) D) fun D1=>zSo L.length
   (fun next=>Cur.of _ fun vs h'=>zRn P V R n n0 M a D1 (mg [] L e vs) h'
    (zTG (fun e'' h''=>Cur.app _ next (L.map e'') h'') Q)) (L.map e) H
 | _,.exit id,_,e,H,Q=>Q (.exit id) e H
 | _,.ret,_,e,H,Q=>Q .ret e H
 | _,_,_,_,_,_=>False
theorem zAdy {P:Program}{V R:List Nat}{n n0:Nat}(c:Code):∀ {M:Bool} {D:List Nat} {e:Env} {H:zAd} {Q:Exit->Env->zAd->Prop},zRn P V R n n0 M c D e H Q=den P V R n n0 M c D e H Q:=by
 induction c with
 | region l ops draw=>intros;simp only[zRn,den,zSu,zAaO,zW2]
 | seq a b iha ihb=>intro M D e H Q;simp only[zRn,den,zL1,zYv,iha,ihb];rfl
 | loop a iha=>intro M D e H Q;simp only[zRn,den,zL1,iha];rfl
 | rangeFunc g ps as b iha ihb=>intro M D e H Q;simp only[zRn,den,zL1,zYv,zUU,iha,ihb]
 | cond c a b iha ihb=>intro M D e H Q;simp only[zRn,den,iha,ihb]
 | block id a iha=>intro M D e H Q;simp only[zRn,den,iha]
 | scope a iha=>intro M D e H Q;simp only[zRn,den,iha]
 | _=>intros;simp only[zRn,den]
def zAaP (P:Program)(V:List Nat)(fn:Func)(args:List Value)(H:zAd)(R:Value->zAd->Prop):Prop :=
 match fn.body with
 | some c=>bif zRs c then zRn P V (zEC fn.results.toList) fn.ntmps H.size true c (zXJ args.length) (zAcf args) H (zAhQ P H.size fn R)
  else zRn P V (zEC fn.results.toList) fn.ntmps 0 false c (zXJ args.length) (zAcf args) H (zAhP P fn R)
 | none=>False
def zAaQ (P:Program)(V:List Nat)(fn:Func)(nargs:Nat):Bool :=
 match fn.body with
 | some c=>Nat.ble nargs fn.ntmps && (match zRN P V (zEC fn.results.toList) fn.ntmps c (zXJ nargs) with
  | some ⟨some d,_⟩=>zYk (zEC fn.results.toList) d
  | some ⟨none,_⟩=>true
  | none=>false)
 | none=>false
theorem zAaR {P:Program}{V:List Nat}{fn:Func}{args:List Value}{H:zAd}{R:Value->zAd->Prop}:zAaP P V fn args H R=zAgD P V fn args H R:=by
 unfold zAaP zAgD
 cases fn.body <;> simp only[zAdy]
theorem zAaS {P:Program}{V:List Nat}{fn:Func}{n:Nat}:zAaQ P V fn n=zAgE P V fn n:=by
 unfold zAaQ zAgE
 cases fn.body with
 | none=>rfl
 | some c=>simp only[zUU];rfl
theorem zYw {P:Program}{f:FuncId}{fn:Func}{V:List Nat}{args:List Value}{H:zAd}{R:Value->zAd->Prop}(hf:P.funcs[f]? = some fn)(hc:zAaQ P V fn args.length=true)(h:zAaP P V fn args H R):zAg P f args H R :=
 zAaN hf (by rw[<- zAaS];exact hc) (by rw[<- zAaR];exact h)
theorem zAf {P:Program}{f:FuncId}{fn:Func}(V:List Nat){args:List Value}{H:zAd}{R:Value->zAd->Prop}{X:Prop}(hf:P.funcs[f]? = some fn)(hc:zAaQ P V fn args.length=true)(hd:zAaP P V fn args H R=X)(h:X):zAg P f args H R :=
 zYw hf hc (by rw[hd];exact h)
end Go.X
