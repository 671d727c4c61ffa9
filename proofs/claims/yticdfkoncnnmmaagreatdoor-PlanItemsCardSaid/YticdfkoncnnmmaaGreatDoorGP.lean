import Derived.Test.YticdfkoncnnmmaaGreatDoorGD
set_option linter.unusedSimpArgs false
set_option linter.unusedVariables false
namespace Go.X
universe u
def nfl{α:Sort u}:List Nat→(List Nat→α)→α
  | [],k=>k []
  | a :: l,k=>nfl l fun l'=>k(a :: l')
theorem zFz{α:Sort u}:∀ {l:List Nat}{k:List Nat→α},nfl l k=k l
  | [],_=>rfl
  | a :: l,k=>by rw[nfl,zFz]
def nfo{α:Sort u}:Option(List Nat)→(Option(List Nat)→α)→α
  | none,k=>k none
  | some l,k=>nfl l fun l'=>k(some l')
theorem zQU{α:Sort u}{o:Option(List Nat)}{k:Option(List Nat)→α}:nfo o k=k o:=by
  cases o with
  | none=>rfl
  | some l=>rw[nfo,zFz]
def seqXF(P:Program)(V:List Nat)(ops:Array Oper):Nat→List Item→Env→Heap→(Env→Heap→Prop)→Prop
  | 0,_,_,_,_=>False
  | _+1,[],e,H,K=>K e H
  | f+1,(o,rs) :: rest,e,H,K=>match o.guard with
    | none=>opX P false o(ev e)H fun v h=>Mre(resOf P(e.put o.dst v)h rs)(seqXF P V ops f rest(e.put o.dst v)h K)
    | some g=>match(ops[g.1]?).bind(·.dst)with
      | some t=>nfl(dsts(opsOf((o,rs) :: (spanG g rest).1)))fun A=>nfl(both V A V)fun L =>
        Mjoin L.length
          (fun k=>Mif(e t)g.2(plainX P((o,rs) :: (spanG g rest).1)e H fun e' h=>Cur.app _ k(L.map e')h)
            (Cur.app _ k(L.map fun _=>undef)H))
          (Cur.of _ fun vs h=>seqXF P V ops f(spanG g rest).2(mg A L e vs)h K)
      | none=>False
theorem zVm{P:Program}{V:List Nat}{ops:Array Oper}:∀ {f:Nat}{l:List Item}{e:Env}{H:Heap}{K:Env→Heap→Prop},seqXF P V ops f l e H K=seqX P V ops f l e H K:=by
  intro f
  induction f with
  | zero=>intros;rfl
  | succ f ih =>
    intro l e H K
    cases l with
    | nil=>rfl
    | cons x rest =>
      obtain⟨o,rs⟩:=x
      simp only[seqXF,seqX,zFz,ih]
      cases o.guard with
      | none=>rfl
      | some g =>
        simp only
        cases(ops[g.1]?).bind(·.dst) <;> rfl
def chkSeqF(V:List Nat)(ops:Array Oper):Nat→List Item→List Nat→Option(List Nat)
  | 0,_,_=>none
  | _+1,[],D=>some D
  | f+1,(o,rs) :: rest,D=>match o.guard with
    | none=>bif okIn D o && rs.all(okRe(addD o.dst D))then chkSeqF V ops f rest(addD o.dst D)else none
    | some g=>match(ops[g.1]?).bind(·.dst)with
      | some t=>nfl(dsts(opsOf((o,rs) :: (spanG g rest).1)))fun A=>bif has D t && !has A t then
          (match chkPlain((o,rs) :: (spanG g rest).1)D with
          | some _=>nfl(both V A V++rm A D)fun D'=>chkSeqF V ops f(spanG g rest).2 D'
          | none=>none)else none
      | none=>none
theorem zTc{V:List Nat}{ops:Array Oper}:∀ {f:Nat}{l:List Item}{D:List Nat},chkSeqF V ops f l D=chkSeq V ops f l D:=by
  intro f
  induction f with
  | zero=>intros;rfl
  | succ f ih =>
    intro l D
    cases l with
    | nil=>rfl
    | cons x rest =>
      obtain⟨o,rs⟩:=x
      simp only[chkSeqF,chkSeq,zFz,ih]
      cases o.guard with
      | none=>rfl
      | some g =>
        simp only
        cases(ops[g.1]?).bind(·.dst)with
        | none=>rfl
        | some t =>
          simp only
          cases(has D t && !has(dsts(opsOf((o,rs) :: (spanG g rest).1)))t)with
          | false=>rfl
          | true =>
            simp only[cond_true]
            cases chkPlain((o,rs) :: (spanG g rest).1)D <;> rfl
def nft{α:Sort u}:Tr→(Tr→α)→α
  | .done,k=>k .done
  | .stop,k=>k .stop
  | .lt i t,k=>nft t fun t'=>k(.lt i t')
  | .hv i rs t m,k=>nfl rs fun rs'=>nft t fun t'=>nft m fun m'=>k(.hv i rs' t' m')
theorem zNc{α:Sort u}:∀ {t:Tr}{k:Tr→α},nft t k=k t
  | .done,_=>rfl
  | .stop,_=>rfl
  | .lt i t,k=>by rw[nft,zNc]
  | .hv i rs t m,k=>by rw[nft,zFz,zNc,zNc]
def treeRXF(P:Program)(V:List Nat)(ops:Array Oper)(e:Env)(H:Heap)(K:Env→Heap→Prop):Prop :=
  nfl(dsts ops.toList)fun A=>nfl(both V A V)fun L=>nft(treeR P ops)fun T =>
  Mjoin L.length(fun k=>treeX P ops T e H fun e' h=>Cur.app _ k(L.map e')h)
    (Cur.of _ fun vs h=>K(mg A L e vs)h)
theorem zTd{P:Program}{V:List Nat}{ops:Array Oper}{e:Env}{H:Heap}{K:Env→Heap→Prop}:treeRXF P V ops e H K=treeRX P V ops e H K:=by
  simp only[treeRXF,treeRX,zFz,zNc]
def chkTRF(P:Program)(V:List Nat)(n:Nat)(ops:Array Oper)(D:List Nat):Option(List Nat) :=
  nfl(dsts ops.toList)fun A=>nfl(both V A V)fun L=>nft(treeR P ops)fun T=>nfl(List.range ops.size)fun R =>
  bif P.follows .mixedOrders && okAll n ops && wfT P ops T R [] true && chkT ops L T D then some(L++rm A D)else none
theorem zT0{P:Program}{V:List Nat}{n:Nat}{ops:Array Oper}{D:List Nat}:chkTRF P V n ops D=chkTR P V n ops D:=by
  simp only[chkTRF,chkTR,zFz,zNc]
def chkF(P:Program)(V R:List Nat)(n:Nat):Code→List Nat→Option Inf
  | .rangeFunc g ps as b,D=>bif opnIn D g && ps.toList.all(fun p=>Nat.ble(p+1)n) && (!hasRet b || subB R D)then(match chkF P V R n as(ps.toList++D)with
    | some⟨some Da,_⟩=>(match chkF P V R n b Da with
      | some⟨_,E⟩=>some⟨some D,E.map fun p=>(p.1,D)⟩
      | none=>none)
    | _=>none)else none
  | .skip,D=>some⟨some D,[]⟩
  | .label _,D=>some⟨some D,[]⟩
  | .scope a,D=>chkF P V R n a D
  | .region _ ops draw,D=>bif draw && !linR P ops then nfo(chkTRF P V n ops D)fun d=>d.map fun D'=>⟨some D',[]⟩else bif(bif draw then ordOk P n ops(ordR P ops)else ops.toList.all(okOp n))then
      nfo(chkSeqF V ops(ops.size+1)(itemsR P ops draw)D)fun d=>d.map fun D'=>⟨some D',[]⟩else none
  | .seq a b,D=>match chkF P V R n a D with
    | some⟨some Da,E⟩=>nfl(bif joins a then both V(asg a)Da++rm(asg a)D else Da)fun D1=>match chkF P V R n b D1 with
      | some⟨nb,E2⟩=>some⟨nb,E++E2⟩
      | none=>none
    | some⟨none,E⟩=>some⟨none,E⟩
    | none=>none
  | .cond c a b,D=>bif opnIn D c then(match chkF P V R n a D,chkF P V R n b D with
    | some⟨na,Ea⟩,some⟨nb,Eb⟩=>nfo(meetAll(na.toList++nb.toList))fun m=>some⟨m,Ea++Eb⟩
    | _,_=>none)else none
  | .block id a,D=>match chkF P V R n a D with
    | some⟨na,E⟩=>nfo(meetAll(na.toList++exD id E))fun m=>some⟨m,exRm id E⟩
    | none=>none
  | .loop a,D=>nfl(both V(asg a)D)fun L=>nfl(L++rm(asg a)D)fun D1=>match chkF P V R n a D1 with
    | some⟨na,E⟩=>bif(match na with | some d=>subB L d | none=>true)then some⟨none,E⟩else none
    | none=>none
  | .exit id,D=>some⟨none,[(id,D)]⟩
  | .ret,D=>bif subB R D then some⟨none,[]⟩else none
  | _,_=>some⟨none,[]⟩
theorem zPr{P:Program}{V R:List Nat}{n:Nat}(c:Code):∀ {D:List Nat},chkF P V R n c D=chk P V R n c D:=by
  induction c with
  | region l ops draw =>
    intro D
    simp only[chkF,chk,chkRegion,zQU,zTc,zT0]
    cases(draw && !linR P ops)
    rotate_left
    · rfl
    simp only[cond_false]
    cases(bif draw then ordOk P n ops(ordR P ops)else ops.toList.all(okOp n)) <;> rfl
  | seq a b iha ihb=>intro D;simp only[chkF,chk,zFz,iha,ihb];rfl
  | cond c a b iha ihb=>intro D;simp only[chkF,chk,zQU,iha,ihb];rfl
  | block id a iha=>intro D;simp only[chkF,chk,zQU,iha];rfl
  | scope a iha=>intro D;simp only[chkF,chk,iha]
  | loop a iha=>intro D;simp only[chkF,chk,zFz,iha];rfl
  | rangeFunc g ps as b iha ihb=>intro D;simp only[chkF,chk,iha,ihb];rfl
  | _=>intros;rfl
def nrmF(P:Program)(V R:List Nat)(n:Nat)(a:Code)(D:List Nat):List Nat:=match chkF P V R n a D with
  | some⟨some d,_⟩=>d
  | _=>[]
theorem zSw{P:Program}{V R:List Nat}{n:Nat}{a:Code}{D:List Nat}:nrmF P V R n a D=nrmOf P V R n a D:=by
  simp only[nrmF,nrmOf,zPr];rfl
def denF(P:Program)(V R:List Nat)(n n0:Nat):Bool→Code→List Nat→Env→Heap→(Exit→Env→Heap→Prop)→Prop
  | M,.rangeFunc g ps as b,D,e,H,Q=>bif M then nfl(ps.toList++D)fun D0=>nfl(nrmF P V R n as D0)fun D1=>nfl(exIds(chkF P V R n b D1))fun ids =>
      Mrange P n0(ev e g)H(fun args h k=>args.length=ps.size∧denF P V R n n0 false as D0(envPs ps.toList 0 args e)h
          (asgQ fun e' h'=>Mbeg(H.size+1)h' fun h''=>denF P V R n n0 false b D1 e' h''(roundQ k)))
        (restQ(hasRet b)Q e ids)
    else False
  | _,.skip,_,e,H,Q=>Q .normal e H
  | _,.label _,_,e,H,Q=>Q .normal e H
  | M,.scope a,D,e,H,Q=>denF P V R n n0 M a D e H Q
  | _,.region _ ops draw,_,e,H,Q=>bif draw && !linR P ops then treeRXF P V ops e H fun e h=>Q .normal e h else seqXF P V ops(ops.size+1)(itemsR P ops draw)e H fun e h=>Q .normal e h
  | M,.seq a b,D,e,H,Q=>bif joins a then nfl(nrmF P V R n a D)fun D1=>nfl(both V(asg a)D1)fun L=>nfl(L++rm(asg a)D)fun D2 =>
      Mjoin L.length
        (fun k=>denF P V R n n0 M a D e H(thenQ(fun e' h'=>Cur.app _ k(L.map e')h')Q))
        (Cur.of _ fun vs h'=>denF P V R n n0 M b D2(mg [] L e vs)h' Q)
    else nfl(nrmF P V R n a D)fun D1=>denF P V R n n0 M a D e H(thenQ(fun e' h'=>denF P V R n n0 M b D1 e' h' Q)Q)
  | M,.cond c a b,D,e,H,Q=>Mcd(ev e c)(denF P V R n n0 M a D e H Q)(denF P V R n n0 M b D e H Q)
  | M,.block id a,D,e,H,Q=>denF P V R n n0 M a D e H(blockQ id Q)
  | M,.loop a,D,e,H,Q=>nfl(both V(asg a)D)fun L=>nfl(L++rm(asg a)D)fun D1=>Mloop L.length
      (fun next=>Cur.of _ fun vs h'=>denF P V R n n0 M a D1(mg [] L e vs)h'
        (thenQ(fun e'' h''=>Cur.app _ next(L.map e'')h'')Q))(L.map e)H
  | _,.exit id,_,e,H,Q=>Q(.exit id)e H
  | _,.ret,_,e,H,Q=>Q .ret e H
  | _,_,_,_,_,_=>False
theorem zWJ{P:Program}{V R:List Nat}{n n0:Nat}(c:Code):∀ {M:Bool}{D:List Nat}{e:Env}{H:Heap}{Q:Exit→Env→Heap→Prop},denF P V R n n0 M c D e H Q=den P V R n n0 M c D e H Q:=by
  induction c with
  | region l ops draw=>intros;simp only[denF,den,regionX,zVm,zTd]
  | seq a b iha ihb=>intro M D e H Q;simp only[denF,den,zFz,zSw,iha,ihb];rfl
  | loop a iha=>intro M D e H Q;simp only[denF,den,zFz,iha];rfl
  | rangeFunc g ps as b iha ihb=>intro M D e H Q;simp only[denF,den,zFz,zSw,zPr,iha,ihb]
  | cond c a b iha ihb=>intro M D e H Q;simp only[denF,den,iha,ihb]
  | block id a iha=>intro M D e H Q;simp only[denF,den,iha]
  | scope a iha=>intro M D e H Q;simp only[denF,den,iha]
  | _=>intros;simp only[denF,den]
def fdenF(P:Program)(V:List Nat)(fn:Func)(args:List Value)(H:Heap)(R:Value→Heap→Prop):Prop :=
  match fn.body with
  | some c=>bif hasRF c then denF P V(resVars fn.results.toList)fn.ntmps H.size true c(iota args.length)(envA args)H(funM P H.size fn R)
    else denF P V(resVars fn.results.toList)fn.ntmps 0 false c(iota args.length)(envA args)H(funQ P fn R)
  | none=>False
def fchkF(P:Program)(V:List Nat)(fn:Func)(nargs:Nat):Bool :=
  match fn.body with
  | some c=>Nat.ble nargs fn.ntmps && (match chkF P V(resVars fn.results.toList)fn.ntmps c(iota nargs)with
    | some⟨some d,_⟩=>subB(resVars fn.results.toList)d
    | some⟨none,_⟩=>true
    | none=>false)
  | none=>false
theorem zVn{P:Program}{V:List Nat}{fn:Func}{args:List Value}{H:Heap}{R:Value→Heap→Prop}:fdenF P V fn args H R=fden P V fn args H R:=by
  unfold fdenF fden
  cases fn.body <;> simp only[zWJ]
theorem zVo{P:Program}{V:List Nat}{fn:Func}{n:Nat}:fchkF P V fn n=fchk P V fn n:=by
  unfold fchkF fchk
  cases fn.body with
  | none=>rfl
  | some c=>simp only[zPr];rfl
theorem zT1{P:Program}{f:FuncId}{fn:Func}{V:List Nat}{args:List Value}{H:Heap}{R:Value→Heap→Prop}(hf:P.funcs[f]? = some fn)(hc:fchkF P V fn args.length=true)(h:fdenF P V fn args H R):HCalls P f args H R :=
  zVl hf(by rw[← zVo];exact hc)(by rw[← zVn];exact h)
theorem zAe{P:Program}{f:FuncId}{fn:Func}(V:List Nat){args:List Value}{H:Heap}{R:Value→Heap→Prop}{X:Prop}(hf:P.funcs[f]? = some fn)(hc:fchkF P V fn args.length=true)(hd:fdenF P V fn args H R=X)(h:X):HCalls P f args H R :=
  zT1 hf hc(by rw[hd];exact h)
end Go.X
